/- What the end of a part tells: heard. -/
import Derived.Test.YtkocnldkimjonaaDoorLinB
namespace Go.Proofs.YtkocnldkimjonaaDoor
open Go.RowKit

/-- all blocks of before but block b and that of the address a are as they were -/
structure Kept (b : Nat) (a : Option Addr) (w w' : World) : Prop where
  os : w'.os = w.os
  tape : w'.tape = w.tape
  output : w'.output = w.output
  size : w.heap.size ≤ w'.heap.size
  block : ∀ k, k < w.heap.size → k ≠ b → (∀ d, a = some d → d.block ≠ k) → w'.heap[k]? = w.heap[k]?
theorem Kept.of_below {b : Nat} {a : Option Addr} {w w' : World} (h : Below w.heap.size w w') : Kept b a w w' := ⟨h.os, h.tape, h.output, h.size, fun k hk _ _ => h.block k hk⟩
theorem FeedAt.lt {B : Nat} {w : World} {b : Nat} {a : Option Addr} {c : Nat} {st : FS} (h : FeedAt B w b a c st) : b < w.heap.size := (Array.getElem?_eq_some_iff.1 h.cells).1
theorem FeedAt.text_lt {B : Nat} {w : World} {b : Nat} {a : Option Addr} {c : Nat} {st : FS} (h : FeedAt B w b a c st) : ∀ d, a = some d → B ≤ d.block ∧ d.block < w.heap.size := fun d hd => h.own.lt d.block (by subst hd; rfl)
theorem FeedAt.later {B : Nat} {w w' : World} {b : Nat} {a : Option Addr} {c : Nat} {st : FS} (h : FeedAt B w b a c st) (hb : Below w.heap.size w w') : FeedAt B w' b a c st :=
  ⟨h.low, (hb.block b h.lt).trans h.cells, h.own.below hb, h.apart⟩
theorem below_alloc (w : World) (o : Obj) : Below w.heap.size w (w.alloc o) := (Below.refl _ w).alloc (Nat.le_refl _) o
theorem Kept.set {b : Nat} {a : Option Addr} {w w1 : World} (h : Kept b a w w1) (p : Addr) (u : Value) (hp : p.block = b ∨ (∃ d, a = some d ∧ d.block = p.block) ∨ w.heap.size ≤ p.block) : Kept b a w (w1.setCell p u) :=
  ⟨h.os, h.tape, h.output, by have := h.size; simpa [World.setCell] using this, fun k hk hkb hka => (Below.heap_setCell _ _ _ _ (fun e => by
    subst e
    rcases hp with h1 | ⟨d, h1, h2⟩ | h1
    · exact hkb h1
    · exact hka d h1 h2
    · omega)).trans (h.block k hk hkb hka)⟩
theorem OwnBytes.of_block {w w' : World} {B : Nat} {e : TypeId} {v : Value} {l : List UInt8} (h : OwnBytes w B e v l) (hb : ∀ k, v.ownBlock = some k → w'.heap[k]? = w.heap[k]?) : OwnBytes w' B e v l := by
  rcases h with ⟨h1, h2 | ⟨g, cap, cur, rfl, hB, hg, r⟩⟩
  · exact ⟨h1, .inl h2⟩
  · exact ⟨h1, .inr ⟨g, cap, cur, rfl, hB, (hb g rfl).trans hg, r⟩⟩
/-- another feeder stands as it did -/
theorem FeedAt.of_kept {B : Nat} {w w' : World} {b b2 c2 : Nat} {a a2 : Option Addr} {st : FS} (h : FeedAt B w b2 a2 c2 st) (hk : Kept b a w w') (h1 : b2 ≠ b) (h2 : ∀ d, a = some d → d.block ≠ b2) (h3 : ∀ d, a2 = some d → d.block ≠ b) (h4 : ∀ d d2, a = some d → a2 = some d2 → d.block ≠ d2.block) : FeedAt B w' b2 a2 c2 st :=
  ⟨h.low, (hk.block b2 h.lt h1 h2).trans h.cells, h.own.of_block (fun k hk' => by
    cases a2 with
    | none => simp [Value.ownBlock] at hk'
    | some d2 =>
      have : d2.block = k := by simpa [Value.ownBlock] using hk'
      subst this
      exact hk.block _ (h.text_lt d2 rfl).2 (h3 d2 rfl) (fun d hd => h4 d d2 hd rfl)), h.apart⟩
/-- what a feeder that stands so tells at the end of a part, and how it stands then -/
def heardL (st : FS) : FS × Nat × List UInt8 :=
  let text := st.text.take (st.text.length - 2)
  match awL (text.drop st.part) with
  | some n => if 4096 < n ∨ 8192 < st.text.length + n then ({ st with text := [], part := 0 }, 3, text) else ({ st with left := n, part := st.text.length }, 2, [])
  | none => ({ st with text := [], part := 0 }, 1, text)
theorem heard_results (tmps : Array Value) (w : World) (n0 : Nat) (K : Int) (T : ByteArray) (ht : tmps[2]? = some (.pointer (some ⟨n0, 0, none⟩))) (h0 : w.cell? ⟨n0, 0, none⟩ = some (.int .i64 K)) (h1 : w.cell? ⟨n0, 1, none⟩ = some (.string T)) :
    (results Tryd.f21 tmps).run Tryd.prog w = .ok (.agg #[.int .i64 K, .string T]) w := by
  have hr : Tryd.f21.results = #[.cell 2 45] := rfl
  unfold results
  rw [hr]
  simp [ht, asAddr]
  go_simp
/-- a feeder's cells turned in place: its block, and everything else -/
structure Feeds (B : Nat) (b : Nat) (a : Option Addr) (w w' : World) (st : FS) : Prop where
  at_ : ∃ a' c', FeedAt B w' b a' c' st ∧ (∀ d, a' = some d → a = some d ∨ w.heap.size ≤ d.block)
  kept : Kept b a w w'
def HeardRet (B : Nat) (b : Nat) (a : Option Addr) (w : World) (r : FS × Nat × List UInt8) (e : Ending) (w' : World) : Prop :=
  ∃ T : ByteArray, e = .returned (.agg #[.int .i64 r.2.1, .string T]) ∧ Hid (T.data.toList = r.2.2) ∧ Feeds B b a w w' r.1
set_option maxHeartbeats 1000000 in
theorem heard_any (B : Nat) (w : World) (ht : Tab w) (he : Errs w) (b g c : Nat) (st : FS) (h : FeedAt B w b (some ⟨g, 0, none⟩) c st) (hp : st.part + 2 ≤ st.text.length) (hl : st.text.length ≤ 9000) :
    Calls Tryd.prog 21 #[.pointer (some ⟨b, 0, none⟩)] w (HeardRet B b (some ⟨g, 0, none⟩) w (heardL st)) := by
  obtain ⟨c0, c1, c2, c3⟩ := h.cell
  have f0 := h.free 0
  have f1 := h.free 1
  have f2 := h.free 2
  have hcap := h.cap_le
  have hbw := h.lt
  obtain ⟨T, hT⟩ : ∃ T : ByteArray, T.data.toList = st.text.take (st.text.length - 2) := ⟨⟨(st.text.take (st.text.length - 2)).toArray⟩, rfl⟩
  have hm : st.text.length = T.size + 2 := by rw [size_len, hT, List.length_take]; omega
  have cv : ∀ o, (convert 48 9 (.slice (some ⟨g, 0, none⟩) T.size c)).run Tryd.prog (w.alloc o) = .ok (.string T) (w.alloc o) := fun o => by
    have := (h.own.alloc o).back_at (P := Tryd.prog) (w2 := w.alloc o) (c' := c) rfl 0 T.size (by omega) 48 9 Tryd.underlying48 Tryd.underlying5 Tryd.underlying9
    rw [this, List.drop_zero, str_eq (s := T) (l := st.text.take T.size) (by rw [hT, hm]; congr 1)]
  have hq : st.part ≤ T.size := by omega
  have hc2 : T.size + 2 ≤ c := by omega
  have hc3 : T.size ≤ c := by omega
  have hs9 : T.size ≤ 8998 := by omega
  rw [hm] at c0
  replace hT := Lib.hid hT
  replace hm := Lib.hid hm
  clear hp hl hcap
  go_enter Tryd.func21, Tryd.ntmps21
  go_wp2_with fail
  refine (awaited_any _ ?_ _ (ht.later (below_alloc _ _)) (he.later (below_alloc _ _))).mono ?_
  · rw [ByteArray.size_extract]; omega
  rintro e w1 ⟨k, ok, rfl, hk, hb⟩
  have hb0 := (below_alloc w (.cells #[.int .i64 0, .string ⟨#[]⟩] 45)).trans (hb.mono (by simp))
  have hr : w1.heap[w.heap.size]? = some (.cells #[.int .i64 0, .string ⟨#[]⟩] 45 (0, 0)) := (hb.block _ (by simp)).trans (heap_alloc_new _ _)
  have h1 := h.later hb0
  obtain ⟨d0, d1, d2, d3⟩ := h1.cell
  have e0 := h1.free 0
  have e1 := h1.free 1
  have e2 := h1.free 2
  have r0 : w1.cell? ⟨w.heap.size, 0, none⟩ = some (.int .i64 0) := by simp only [World.cell?, hr]; rfl
  have r1 : w1.cell? ⟨w.heap.size, 1, none⟩ = some (.string ⟨#[]⟩) := by simp only [World.cell?, hr]; rfl
  have rf0 : w1.frozen? ⟨w.heap.size, 0, none⟩ = false := by simp only [World.frozen?, hr]; simp
  have rf1 : w1.frozen? ⟨w.heap.size, 1, none⟩ = false := by simp only [World.frozen?, hr]; simp
  have hn1 : ¬ w.heap.size = b := by omega
  have hn2 : ¬ b = w.heap.size := by omega
  clear c0 c1 c2 c3 f0 f1 f2 cv
  rw [hm.out] at d0
  have hk0 : Kept b (some ⟨g, 0, none⟩) w w1 := .of_below hb0
  have hx : (T.extract st.part T.size).data.toList = T.data.toList.drop st.part := by
    rw [ext_list, List.take_of_length_le (by simp)]
  have hT' : T.data.toList = st.text.take (st.text.length - 2) := hT.out
  have cells1 := h1.cells
  cases ok
  · have hv : heardL st = ({ st with text := [], part := 0 }, 1, T.data.toList) := by
      rw [heardL, ← hT', ← hx, hk.out.1]; rfl
    clear hk hx hT'
    replace hv := Lib.hid hv
    replace cells1 := Lib.hid cells1
    go_wp2_with fail
    rw [hv.out]
    refine bodyPost_ret (heard_results _ _ w.heap.size 1 T rfl ?_ ?_) rfl ?_
    · go_simp
    · go_simp
    · refine ⟨T, rfl, Lib.hid rfl, ⟨none, 0, ⟨h.low, ?_, OwnBytes.nil _ _ _, fun d hd => nomatch hd⟩, fun d hd => nomatch hd⟩, ?_⟩
      · simp [World.setCell, Array.getElem?_modify, cells1.out, hn1]
      · exact (((hk0.set _ _ (.inl rfl)).set _ _ (.inl rfl)).set _ _ (.inr (.inr (Nat.le_refl _)))).set _ _ (.inr (.inr (Nat.le_refl _)))
  · by_cases hbig : 4096 < k ∨ 8192 < st.text.length + k
    · have hv : heardL st = ({ st with text := [], part := 0 }, 3, T.data.toList) := by
        rw [heardL, ← hT', ← hx, hk.out.1]
        show (if _ then _ else _) = _
        rw [if_pos hbig]
      rw [hm.out] at hbig
      clear hk hx hT'
      replace hv := Lib.hid hv
      replace cells1 := Lib.hid cells1
      by_cases hk4 : (4096 : Int) < (k : Int)
      case' pos => skip
      case' neg =>
        have hk5 : (8192 : Int) < (T.size : Int) + 2 + (k : Int) := by omega
        have hk6 : k ≤ 4096 := by omega
      all_goals
        clear hbig
        go_wp2_with fail
        rw [hv.out]
        refine bodyPost_ret (heard_results _ _ w.heap.size 3 T rfl ?_ ?_) rfl ?_
        · go_simp
        · go_simp
        · refine ⟨T, rfl, Lib.hid rfl, ⟨none, 0, ⟨h.low, ?_, OwnBytes.nil _ _ _, fun d hd => nomatch hd⟩, fun d hd => nomatch hd⟩, ?_⟩
          · simp [World.setCell, Array.getElem?_modify, cells1.out, hn1]
          · exact (((hk0.set _ _ (.inl rfl)).set _ _ (.inl rfl)).set _ _ (.inr (.inr (Nat.le_refl _)))).set _ _ (.inr (.inr (Nat.le_refl _)))
    · have hv : heardL st = ({ st with left := k, part := st.text.length }, 2, []) := by
        rw [heardL, ← hT', ← hx, hk.out.1]
        show (if _ then _ else _) = _
        rw [if_neg hbig]
      rw [hm.out] at hbig
      have hk4 : ¬ (4096 : Int) < (k : Int) := by omega
      have hk5 : ¬ (8192 : Int) < (T.size : Int) + 2 + (k : Int) := by omega
      have hk6 : k ≤ 4096 := by omega
      clear hk hx hT' hbig
      replace hv := Lib.hid hv
      replace cells1 := Lib.hid cells1
      go_wp2_with fail
      rw [hv.out]
      refine bodyPost_ret (heard_results _ _ w.heap.size 2 ⟨#[]⟩ rfl ?_ ?_) rfl ?_
      · go_simp
      · go_simp
      · refine ⟨⟨#[]⟩, rfl, Lib.hid rfl, ⟨some ⟨g, 0, none⟩, c, ⟨h.low, ?_, ?_, h.apart⟩, fun d hd => .inl hd⟩, ?_⟩
        · simp [World.setCell, Array.getElem?_modify, cells1.out, hn1, hm.out]
        · refine h1.own.of_block (fun k hk' => ?_)
          have : k = g := by simpa [Value.ownBlock] using hk'.symm
          subst this
          have hg1 : k ≠ b := h.apart _ rfl
          have hg2 := (h.text_lt _ rfl).2
          have hg3 : k < w.heap.size := hg2
          rw [Below.heap_setCell _ _ _ _ (by show k ≠ w.heap.size; omega), Below.heap_setCell _ _ _ _ (by show k ≠ w.heap.size; omega), Below.heap_setCell _ _ _ _ (show k ≠ b from hg1), Below.heap_setCell _ _ _ _ (show k ≠ b from hg1)]
        · exact (((hk0.set _ _ (.inl rfl)).set _ _ (.inl rfl)).set _ _ (.inr (.inr (Nat.le_refl _)))).set _ _ (.inr (.inr (Nat.le_refl _)))
end Go.Proofs.YtkocnldkimjonaaDoor
