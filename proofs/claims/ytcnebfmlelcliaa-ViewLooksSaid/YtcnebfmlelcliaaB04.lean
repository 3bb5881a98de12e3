/- Where a letter stands: walked. Sync as plain laws: what is told once is not told again (ViewQuiet: sync_still); a view that is told has just the letters (ViewFollows: sync_all, sync_follows); who counts by the replies (ViewCounts: run_tell). slices.Clone at letters, mailboxes, seats, homes and texts: walked. Flags among other things; things joined, merged, in another order. mail.cloneBox: walked. -/
import Derived.Test.YtcnebfmlelcliaaB03
import Derived.Test.YtcnebfmlelcliaaB02
import Derived.Laws.ResultCell
namespace Go.Proofs.Ytcnebfmlelcliaa
set_option linter.unusedSimpArgs false
open Go.RowKit
theorem lettI_none : ∀ {l : List LtV} {uid : Nat}, (∀ r ∈ l, r.x.uid ≠ uid) → lettI l uid = 0
  | [], _, _ => rfl
  | r :: l, uid, h => by
    have h1 : lettI l uid = 0 := lettI_none (fun x hx => h x (by simp [hx]))
    unfold lettI
    rw [if_neg (h r (by simp)), h1]
theorem lettI_at : ∀ {l : List LtV} {uid q : Nat} (hq : q < l.length), (∀ r ∈ l.take q, r.x.uid ≠ uid) → l[q].x.uid = uid → lettI l uid = q + 1
  | r :: l, uid, 0, _, _, h => by unfold lettI; rw [if_pos (by simpa using h)]
  | r :: l, uid, q + 1, hq, h1, h2 => by
    have h3 : lettI l uid = q + 1 := lettI_at (by simpa using hq) (fun x hx => h1 x (by simp [hx])) (by simpa using h2)
    unfold lettI
    rw [if_neg (h1 r (by simp)), h3]
theorem lettI_le : ∀ (l : List LtV) (uid : Nat), lettI l uid ≤ l.length
  | [], _ => Nat.le_refl _
  | r :: l, uid => by
    have := lettI_le l uid
    unfold lettI
    split
    · simp
    · split
      · simp
      · rename_i n h; rw [List.length_cons]; omega
theorem let_no {l : List LtV} {q uid : Nat} (hq : q < l.length) (h : ∀ r ∈ l.take q, r.x.uid ≠ uid) (h2 : l[q].x.uid ≠ uid) : ∀ r ∈ l.take (q + 1), r.x.uid ≠ uid := fun r hr => by
  rw [List.take_succ_eq_append_getElem hq, List.mem_append, List.mem_singleton] at hr
  rcases hr with hr | rfl
  · exact h r hr
  · exact h2
set_option maxHeartbeats 1000000 in
theorem letIs_any (y : LtV) (U uid : Nat) (w : World) (hU : Boxed w U 22 (.int .u64 uid)) :
    Calls Try.prog 55 #[.agg #[.int .u64 y.x.uid, .slice y.a y.x.flags.length y.c, .int .u64 y.x.mod, .string y.x.hash, .int .u64 y.x.size], .pointer (some ⟨U, 0, none⟩)] w fun e w' => e = .returned (.bool (decide (y.x.uid = uid))) ∧ Hid (Below w.heap.size w w') := by
  obtain ⟨⟨f, fl, m, hs, sz⟩, a, c⟩ := y
  dsimp only
  have hb := (Below.refl _ w).alloc (Nat.le_refl _) (.cells #[.int .u64 f, .slice a fl.length c, .int .u64 m, .string hs, .int .u64 sz] 66)
  have cU := (boxed_below hU hb).cell
  replace hb := Lib.hid hb
  clear hU
  generalize fl.length = n at cU hb ⊢
  by_cases h : f = uid
  · have e1 : ((f : Int) == (uid : Int)) = true := by rw [h]; simp
    have hd := Lib.hid (decide_eq_true h)
    clear h
    go_enter Try.func55, Try.ntmps55
    go_wp2_with fail
    go_ret
    exact ⟨by rw [hd.out]; rfl, hb⟩
  · have e1 : ((f : Int) == (uid : Int)) = false := by rw [beq_eq_false_iff_ne]; omega
    have hd := Lib.hid (decide_eq_false h)
    clear h
    go_enter Try.func55, Try.ntmps55
    go_wp2_with fail
    go_ret
    exact ⟨by rw [hd.out]; rfl, hb⟩
theorem LtsIn.at_ {W : World} {v : Value} {rows : List LtV} (h : LtsIn W v rows) {j : Nat} (hj : j < rows.length) : ∃ b o cap, v = .slice (some ⟨b, o, none⟩) rows.length cap ∧ b < W.heap.size ∧
    W.cell? ⟨b, o + j * 5, none⟩ = some (.int .u64 rows[j].x.uid) ∧ W.cell? ⟨b, o + j * 5 + 1, none⟩ = some (.slice rows[j].a rows[j].x.flags.length rows[j].c) ∧ W.cell? ⟨b, o + j * 5 + 2, none⟩ = some (.int .u64 rows[j].x.mod) ∧ W.cell? ⟨b, o + j * 5 + 3, none⟩ = some (.string rows[j].x.hash) ∧ W.cell? ⟨b, o + j * 5 + 4, none⟩ = some (.int .u64 rows[j].x.size) := by
  obtain ⟨b, o, cap, hv, -, hb, hc⟩ := ltT.rd_cells h.1 hj
  have hc2 : ∀ r u, (ltCells rows[j])[r]? = some u → W.cell? ⟨b, o + j * 5 + r, none⟩ = some u := fun r u hu => by
    have := hc r u hu
    rw [Nat.add_assoc]; exact this
  exact ⟨b, o, cap, hv, hb, hc2 0 _ rfl, hc2 1 _ rfl, hc2 2 _ rfl, hc2 3 _ rfl, hc2 4 _ rfl⟩
set_option maxRecDepth 100000 in
set_option maxHeartbeats 2000000 in
theorem letIdx_any (l : List LtV) (v : Value) (U uid : Nat) (w : World) (hl : l.length ≤ 1000000) (hU : Boxed w U 22 (.int .u64 uid)) (hk : LtsIn w v l) :
    Calls Try.prog 54 #[v, .func (.func 55) #[] #[.pointer (some ⟨U, 0, none⟩)]] w fun e w' => e = .returned (.int .i64 ((lettI l uid : Int) - 1)) ∧ Hid (Below w.heap.size w w') := by
  have hk0 := Lib.hid hk
  have hwa := Lib.hid letIs_any
  obtain ⟨ao, cap, rfl, _⟩ := hk.1
  clear hk
  replace hU := Lib.hid hU
  go_enter Try.func54, Try.ntmps54
  go_wp2_with fail
  go_loopw [8] (fun v8 wr => ∃ q : Nat, v8 = .int .i64 q ∧ q ≤ l.length ∧ Hid (∀ r ∈ l.take q, r.x.uid ≠ uid) ∧ Hid (Below w.heap.size w wr)) (fun v8 _ => l.length - (intOf v8).toNat)
  case atStart => exact ⟨0, rfl, Nat.zero_le _, Lib.hid (by simp), Lib.hid (Below.refl _ _)⟩
  case round =>
    obtain ⟨q, rfl, hq, hno, hb⟩ := hrel
    by_cases hlt : q < l.length
    · obtain ⟨b, o, cap', hv, hbB, c0, c1, c2, c3, c4⟩ := (hk0.out.below hb.out).at_ hlt
      injection hv with q1 q2 q3
      subst q1 q3
      have hstep := let_no hlt hno.out
      have hyes := lettI_at hlt hno.out
      have hcall := Lib.hid (hwa.out l[q] U uid wr (boxed_below hU.out hb.out))
      generalize l[q] = k at c0 c1 c2 c3 c4 hstep hyes hcall
      obtain ⟨⟨kf, kfl, km, kh, ks⟩, ka, kc⟩ := k
      dsimp only at c0 c1 c2 c3 c4 hstep hyes hcall
      generalize kfl.length = kn at c1 hcall
      have hl1 : (q : Int) < (l.length : Int) := by omega
      by_cases hB : kf = uid
      · rw [decide_eq_true hB] at hcall
        have hyy := Lib.hid (hyes hB)
        clear hstep hyes hB
        go_wp2_with fail
        refine hcall.out.mono ?_
        rintro e w3 ⟨rfl, hb3⟩
        have hb4 := Lib.hid (hb.out.trans (hb3.out.mono hb.out.size))
        clear hcall hb3 c0 c1 c2 c3 c4
        go_wp2_with fail
        go_ret
        exact ⟨by rw [hyy.out]; simp, hb4⟩
      · rw [decide_eq_false hB] at hcall
        replace hstep := Lib.hid (hstep hB)
        clear hyes hB
        go_wp2_with fail
        refine hcall.out.mono ?_
        rintro e w3 ⟨rfl, hb3⟩
        have hb4 := Lib.hid (hb.out.trans (hb3.out.mono hb.out.size))
        clear hcall hb3 c0 c1 c2 c3 c4
        go_wp2_with fail
        go_roundw
        case rel => exact ⟨q + 1, by go_num, by omega, hstep, hb4⟩
        case measure => simp [intOf] <;> omega
    · obtain rfl : q = l.length := by omega
      have hz : Hid (lettI l uid = 0) := Lib.hid (lettI_none (by have := hno.out; rwa [List.take_length] at this))
      go_wp2_with fail
      go_ret
      exact ⟨by rw [hz.out]; rfl, hb⟩
set_option maxRecDepth 100000 in
set_option maxHeartbeats 2000000 in
theorem letter_any (z : BxV) (uid : Nat) (w : World) (hl : z.rows.length ≤ 1000000) (hk : LtsIn w z.v z.rows) :
    Calls Try.prog 40 #[.agg #[.string z.name, .int .u64 z.validity, .int .u64 z.next, .int .u64 z.high, .slice z.a z.rows.length z.c], .int .u64 uid] w fun e w' => e = .returned (.int .i64 ((lettI z.rows uid : Int) - 1)) ∧ Hid (Below w.heap.size w w') := by
  obtain ⟨nm, vl, nx, hi, rows, a, c⟩ := z
  dsimp only
  obtain ⟨W1, hW1⟩ : ∃ W1, W1 = w.alloc (.cells #[.string nm, .int .u64 vl, .int .u64 nx, .int .u64 hi, .slice a rows.length c] 28) := ⟨_, rfl⟩
  obtain ⟨W2, hW2⟩ : ∃ W2, W2 = W1.alloc (.cells #[.int .u64 uid] 22) := ⟨_, rfl⟩
  have s1 : W1.heap.size = w.heap.size + 1 := by rw [hW1]; simp
  have m2 : Boxed W2 (w.heap.size + 1) 22 (.int .u64 uid) := by rw [hW2, ← s1]; exact cells_new W1 _ _
  have b1 : Below w.heap.size w W1 := by rw [hW1]; exact (Below.refl _ w).alloc (Nat.le_refl _) _
  have b2 : Below W1.heap.size W1 W2 := by rw [hW2]; exact (Below.refl _ W1).alloc (Nat.le_refl _) _
  have bw : Below w.heap.size w W2 := b1.trans (b2.mono b1.size)
  have hk2 : LtsIn W2 (.slice a rows.length c) rows := hk.below bw
  have hcall := letIdx_any rows (.slice a rows.length c) (w.heap.size + 1) uid W2 hl m2 hk2
  rw [hW2, hW1] at hcall bw
  replace hcall := Lib.hid hcall
  replace bw := Lib.hid bw
  clear hk2 m2 b1 b2 s1 hW2 hW1 W1 W2 hk hl
  generalize lettI rows uid = LI at hcall ⊢
  generalize rows.length = rn at hcall bw ⊢
  go_enter Try.func40, Try.ntmps40
  go_wp2_with fail
  refine hcall.out.mono ?_
  rintro e w1 ⟨rfl, hb⟩
  have hb9 := Lib.hid (bw.out.trans (hb.out.mono bw.out.size))
  clear hb bw hcall
  go_wp2_with fail
  go_ret
  exact ⟨rfl, hb9⟩
end Go.Proofs.Ytcnebfmlelcliaa
namespace Go.Proofs.Ytcnebfmlelcliaa
theorem foldmax_le {l : List (Nat × Nat)} : ∀ {m : Nat}, m ≤ l.foldl (fun m r => max m r.1) m := by
  induction l with
  | nil => exact Nat.le_refl _
  | cons r t ih => intro m; exact Nat.le_trans (Nat.le_max_left m r.1) ih
theorem foldmax_mem {l : List (Nat × Nat)} {r : Nat × Nat} (h : r ∈ l) : ∀ {m : Nat}, r.1 ≤ l.foldl (fun m r => max m r.1) m := by
  induction l with
  | nil => cases h
  | cons x t ih =>
    intro m
    rcases List.mem_cons.1 h with rfl | h
    · exact Nat.le_trans (Nat.le_max_right m r.1) foldmax_le
    · exact ih h
theorem foldmax_up {l : List (Nat × Nat)} {n : Nat} (h : ∀ r ∈ l, r.1 ≤ n) : ∀ {m : Nat}, m ≤ n → l.foldl (fun m r => max m r.1) m ≤ n := by
  induction l with
  | nil => exact fun h => h
  | cons x t ih => intro m hm; exact ih (fun r hr => h r (List.mem_cons_of_mem _ hr)) (Nat.max_le.2 ⟨hm, h x List.mem_cons_self⟩)
theorem mostL_mem {l : List (Nat × Nat)} {r : Nat × Nat} (h : r ∈ l) : r.1 ≤ mostL l := foldmax_mem h
theorem mostL_le {l : List (Nat × Nat)} {n : Nat} (h : ∀ r ∈ l, r.1 ≤ n) : mostL l ≤ n := foldmax_up h (Nat.zero_le _)
/-- the Mod of the first letter of a Uid -/
def modAt (b : List (Nat × Nat)) (u : Nat) : Option Nat := (b.find? (fun x => x.1 == u)).map Prod.snd
def keptL (l b : List (Nat × Nat)) (expunge : Bool) : List (Nat × Nat) := if expunge then l.filter (fun r => (modAt b r.1).isSome) else l
def newsL (k b : List (Nat × Nat)) : List (Nat × Nat) := b.filter (fun x => decide (mostL k < x.1))
def turnR (b : List (Nat × Nat)) (r : Nat × Nat) : Nat × Nat := match modAt b r.1 with
  | some m => (r.1, m)
  | none => r
/-- the rows that Sync leaves -/
def syncL (l b : List (Nat × Nat)) (expunge : Bool) : List (Nat × Nat) := (keptL l b expunge).map (turnR b) ++ newsL (keptL l b expunge) b
/-- is nothing told? -/
def stillL (l b : List (Nat × Nat)) (expunge : Bool) : Prop := keptL l b expunge = l ∧ newsL l b = [] ∧ ∀ r ∈ l, turnR b r = r
theorem modAt_mem {b : List (Nat × Nat)} (hb : b.Pairwise (fun x y => x.1 < y.1)) {x : Nat × Nat} (hx : x ∈ b) : modAt b x.1 = some x.2 := by
  unfold modAt
  induction b with
  | nil => cases hx
  | cons y t ih =>
    rw [List.pairwise_cons] at hb
    rcases List.mem_cons.1 hx with rfl | ht
    · simp [List.find?]
    · have hlt := hb.1 x ht
      have hne : (y.1 == x.1) = false := by simp; omega
      simp only [List.find?, hne]
      exact ih hb.2 ht
theorem turnR_fst (b : List (Nat × Nat)) (r : Nat × Nat) : (turnR b r).1 = r.1 := by
  unfold turnR; split <;> rfl
theorem turnR_twice (b : List (Nat × Nat)) (r : Nat × Nat) : turnR b (turnR b r) = turnR b r := by
  cases h : modAt b r.1 with
  | none => have e : turnR b r = r := by unfold turnR; rw [h]
            rw [e, e]
  | some m => have e : turnR b r = (r.1, m) := by unfold turnR; rw [h]
              rw [e]; unfold turnR; simp only [h]

theorem sync_still {l b : List (Nat × Nat)} {expunge : Bool} (hb : b.Pairwise (fun x y => x.1 < y.1)) : stillL (syncL l b expunge) b expunge := by
  have hrow : ∀ r ∈ syncL l b expunge, turnR b r = r := fun r hr => by
    unfold syncL at hr
    rcases List.mem_append.1 hr with h | h
    · obtain ⟨r0, -, rfl⟩ := List.mem_map.1 h
      exact turnR_twice b r0
    · have hm := (List.mem_filter.1 h).1
      unfold turnR; rw [modAt_mem hb hm]
  refine ⟨?_, ?_, hrow⟩
  · unfold keptL
    cases expunge with
    | false => rfl
    | true =>
      simp only [if_true]
      refine List.filter_eq_self.2 (fun r hr => ?_)
      unfold syncL at hr
      rcases List.mem_append.1 hr with h | h
      · obtain ⟨r0, h0, rfl⟩ := List.mem_map.1 h
        rw [turnR_fst]
        unfold keptL at h0
        simp only [if_true] at h0
        exact (List.mem_filter.1 h0).2
      · rw [modAt_mem hb (List.mem_filter.1 h).1]; rfl
  · unfold newsL
    refine List.filter_eq_nil_iff.2 (fun x hx => ?_)
    simp only [decide_eq_true_eq, Nat.not_lt]
    by_cases hlt : mostL (keptL l b expunge) < x.1
    · refine mostL_mem (List.mem_append.2 (Or.inr ?_))
      exact List.mem_filter.2 ⟨hx, decide_eq_true hlt⟩
    · refine Nat.le_trans (Nat.le_of_not_lt hlt) ?_
      refine mostL_le (fun r hr => ?_)
      have := mostL_mem (l := syncL l b expunge) (r := turnR b r) (List.mem_append.2 (Or.inl (List.mem_map.2 ⟨r, hr, rfl⟩)))
      rwa [turnR_fst] at this
theorem rising_ext : ∀ {l k : List (Nat × Nat)}, l.Pairwise (fun x y => x.1 < y.1) → k.Pairwise (fun x y => x.1 < y.1) → (∀ x, x ∈ l ↔ x ∈ k) → l = k
  | [], [], _, _, _ => rfl
  | [], y :: t, _, _, h => absurd ((h y).2 List.mem_cons_self) (by simp)
  | x :: s, [], _, _, h => absurd ((h x).1 List.mem_cons_self) (by simp)
  | x :: s, y :: t, hl, hk, h => by
    rw [List.pairwise_cons] at hl hk
    have exy : x = y := by
      rcases List.mem_cons.1 ((h x).1 List.mem_cons_self) with e | e
      · exact e
      · rcases List.mem_cons.1 ((h y).2 List.mem_cons_self) with e2 | e2
        · exact e2.symm
        · have := hl.1 y e2; have := hk.1 x e; omega
    subst exy
    refine congrArg (x :: ·) (rising_ext hl.2 hk.2 fun z => ⟨fun hz => ?_, fun hz => ?_⟩)
    · rcases List.mem_cons.1 ((h z).1 (List.mem_cons_of_mem _ hz)) with rfl | e
      · exact absurd (hl.1 z hz) (Nat.lt_irrefl _)
      · exact e
    · rcases List.mem_cons.1 ((h z).2 (List.mem_cons_of_mem _ hz)) with rfl | e
      · exact absurd (hk.1 z hz) (Nat.lt_irrefl _)
      · exact e
theorem modAt_some {b : List (Nat × Nat)} {u m : Nat} (h : modAt b u = some m) : (u, m) ∈ b := by
  unfold modAt at h
  cases e : b.find? (fun x => x.1 == u) with
  | none => rw [e] at h; cases h
  | some x =>
    rw [e] at h
    have h1 := List.mem_of_find?_eq_some e
    have h2 := List.find?_some e
    injection h with h
    simp only [beq_iff_eq] at h2
    have : x = (u, m) := Prod.ext h2 h
    rwa [← this]
theorem rising_split {b : List (Nat × Nat)} (hb : b.Pairwise (fun x y => x.1 < y.1)) (n : Nat) : b.filter (fun x => decide (x.1 ≤ n)) ++ b.filter (fun x => decide (n < x.1)) = b := by
  refine rising_ext (List.pairwise_append.2 ⟨hb.filter _, hb.filter _, fun x hx y hy => ?_⟩) hb fun x => ?_
  · have h1 := (List.mem_filter.1 hx).2
    have h2 := (List.mem_filter.1 hy).2
    simp only [decide_eq_true_eq] at h1 h2
    omega
  · rw [List.mem_append, List.mem_filter, List.mem_filter]
    simp only [decide_eq_true_eq]
    refine ⟨fun h => h.elim And.left And.left, fun h => ?_⟩
    rcases Nat.lt_or_ge n x.1 with h2 | h2
    · exact .inr ⟨h, h2⟩
    · exact .inl ⟨h, h2⟩
/-- a view whose rows know all letters up to its last: a Sync with expunges leaves the mailbox's letters -/
theorem sync_all {l b : List (Nat × Nat)} (hl : l.Pairwise (fun x y => x.1 < y.1)) (hb : b.Pairwise (fun x y => x.1 < y.1)) (hk : ∀ x ∈ b, x.1 ≤ mostL l → ∃ r ∈ l, r.1 = x.1) : syncL l b true = b := by
  have hkl : ∀ r, r ∈ keptL l b true ↔ r ∈ l ∧ (modAt b r.1).isSome = true := fun r => by
    unfold keptL; simp only [if_true]; exact List.mem_filter
  have hm : mostL (keptL l b true) ≤ mostL l := mostL_le fun r hr => mostL_mem ((hkl r).1 hr).1
  unfold syncL newsL
  have e : (keptL l b true).map (turnR b) = b.filter (fun x => decide (x.1 ≤ mostL (keptL l b true))) := by
    refine rising_ext ?_ (hb.filter _) fun x => ?_
    · rw [List.pairwise_map]
      have : (keptL l b true).Pairwise (fun x y => x.1 < y.1) := by unfold keptL; simp only [if_true]; exact hl.filter _
      exact this.imp fun {a c} h => by rw [turnR_fst, turnR_fst]; exact h
    · rw [List.mem_map, List.mem_filter]
      simp only [decide_eq_true_eq]
      constructor
      · rintro ⟨r, hr, rfl⟩
        obtain ⟨h1, h2⟩ := (hkl r).1 hr
        obtain ⟨m, e⟩ := Option.isSome_iff_exists.1 h2
        have et : turnR b r = (r.1, m) := by unfold turnR; rw [e]
        rw [et]
        exact ⟨modAt_some e, (mostL_mem hr : r.1 ≤ mostL (keptL l b true))⟩
      · rintro ⟨hx, hle⟩
        obtain ⟨r, hr, e⟩ := hk x hx (Nat.le_trans hle hm)
        have hmo := modAt_mem hb hx
        refine ⟨r, (hkl r).2 ⟨hr, by rw [e, hmo]; rfl⟩, ?_⟩
        unfold turnR; rw [e, hmo]
  rw [e]
  exact rising_split hb _
theorem mostL_lt {l : List (Nat × Nat)} {n : Nat} (h : ∀ r ∈ l, r.1 < n) (h0 : 0 < n) : mostL l < n := by
  have := mostL_le (l := l) (n := n - 1) fun r hr => by have := h r hr; omega
  omega
/-- ViewFollows: a view of a mailbox as it was, told of it as it is (no expunges), and told again later (expunges, too), has just its letters -/
theorem sync_follows {o0 o1 o2 : List (Nat × Nat)} {n0 n1 : Nat} (hr0 : o0.Pairwise (fun x y => x.1 < y.1)) (hr1 : o1.Pairwise (fun x y => x.1 < y.1)) (hr2 : o2.Pairwise (fun x y => x.1 < y.1)) (h0 : ∀ x ∈ o0, x.1 < n0) (h1 : ∀ x ∈ o1, x.1 < n1) (hn : n0 ≤ n1) (hp : 0 < n0)
    (h01 : ∀ x ∈ o1, x.1 < n0 → ∃ y ∈ o0, y.1 = x.1) (h12 : ∀ x ∈ o2, x.1 < n1 → ∃ y ∈ o1, y.1 = x.1) : syncL (syncL o0 o1 false) o2 true = o2 := by
  have hw : syncL o0 o1 false = o0.map (turnR o1) ++ newsL o0 o1 := by unfold syncL keptL; rfl
  have hlt : ∀ r ∈ syncL o0 o1 false, r.1 < n1 := fun r hr => by
    rw [hw] at hr
    rcases List.mem_append.1 hr with h | h
    · obtain ⟨r0, hr0', rfl⟩ := List.mem_map.1 h
      rw [turnR_fst]
      exact Nat.lt_of_lt_of_le (h0 r0 hr0') hn
    · exact h1 r (List.mem_filter.1 h).1
  refine sync_all ?_ hr2 (fun x hx hle => ?_)
  · rw [hw]
    refine List.pairwise_append.2 ⟨?_, hr1.filter _, fun a ha c hc => ?_⟩
    · rw [List.pairwise_map]
      exact hr0.imp fun {a c} h => by rw [turnR_fst, turnR_fst]; exact h
    · obtain ⟨r0, hr0', rfl⟩ := List.mem_map.1 ha
      rw [turnR_fst]
      have h2 := (List.mem_filter.1 hc).2
      simp only [decide_eq_true_eq] at h2
      exact Nat.lt_of_le_of_lt (mostL_mem hr0') h2
  · have hx1 : x.1 < n1 := Nat.lt_of_le_of_lt hle (mostL_lt hlt (Nat.lt_of_lt_of_le hp hn))
    obtain ⟨y, hy, e⟩ := h12 x hx hx1
    rw [hw]
    by_cases hm : mostL o0 < y.1
    · exact ⟨y, List.mem_append.2 (.inr (List.mem_filter.2 ⟨hy, decide_eq_true hm⟩)), e⟩
    · obtain ⟨z, hz', e2⟩ := h01 y hy (Nat.lt_of_le_of_lt (Nat.le_of_not_lt hm) (mostL_lt h0 hp))
      exact ⟨turnR o1 z, List.mem_append.2 (.inl (List.mem_map.2 ⟨z, hz', rfl⟩)), by rw [turnR_fst, e2, e]⟩
/-- who counts by the replies (9: expunge, 8: exists, 14: fetch): none if a reply is of a message that isn't there -/
def runR (ex : Bool) : Nat → List (Nat × Nat) → Option Nat
  | n, [] => some n
  | n, (k, N) :: t => if k = 9 then (if N < 1 ∨ n < N ∨ ex = false then none else runR ex (n - 1) t)
    else if k = 8 then (if N ≤ n then none else runR ex N t)
    else if k = 14 then (if N < 1 ∨ n < N then none else runR ex n t) else runR ex n t
/-- the expunges of the first k rows, from the last one down -/
def expR (l b : List (Nat × Nat)) : Nat → List (Nat × Nat)
  | 0 => []
  | k + 1 => if (modAt b (l[k]?.getD (0, 0)).1).isSome then expR l b k else (9, k + 1) :: expR l b k
/-- the fetches of the rows from k on -/
def fetR (b : List (Nat × Nat)) : List (Nat × Nat) → Nat → List (Nat × Nat)
  | [], _ => []
  | r :: t, k => if turnR b r = r then fetR b t (k + 1) else (14, k + 1) :: fetR b t (k + 1)
def tellR (l b : List (Nat × Nat)) (expunge : Bool) : List (Nat × Nat) := (if expunge then expR l b l.length else []) ++ ((if newsL (keptL l b expunge) b = [] then [] else [(8, (keptL l b expunge).length + (newsL (keptL l b expunge) b).length)]) ++ fetR b (keptL l b expunge) 0)
theorem run_exp (l b t : List (Nat × Nat)) : ∀ (k c : Nat), k ≤ l.length → runR true (k + c) (expR l b k ++ t) = runR true (((l.take k).filter (fun r => (modAt b r.1).isSome)).length + c) t := by
  intro k
  induction k with
  | zero => intro c _; simp [expR]
  | succ k ih =>
    intro c hk
    have hk' : k < l.length := hk
    have hg : l[k]?.getD (0, 0) = l[k] := by rw [List.getElem?_eq_getElem hk']; rfl
    rw [List.take_succ_eq_append_getElem hk', List.filter_append, List.length_append]
    unfold expR
    rw [hg]
    by_cases h : (modAt b l[k].1).isSome = true
    · have e1 : [l[k]].filter (fun r => (modAt b r.1).isSome) = [l[k]] := List.filter_cons_of_pos (p := fun r : Nat × Nat => (modAt b r.1).isSome) h
      rw [if_pos h, e1, show k + 1 + c = k + (c + 1) from by omega]
      rw [ih (c + 1) (Nat.le_of_lt hk')]
      congr 1
      simp only [List.length_singleton]; omega
    · have e1 : [l[k]].filter (fun r => (modAt b r.1).isSome) = [] := List.filter_cons_of_neg (p := fun r : Nat × Nat => (modAt b r.1).isSome) h
      rw [if_neg h, e1]
      simp only [List.cons_append, runR, if_true]
      rw [if_neg (by simp)]
      rw [show k + 1 + c - 1 = k + c from by omega, ih c (Nat.le_of_lt hk')]
      rfl
theorem run_fet (ex : Bool) (b : List (Nat × Nat)) (n : Nat) : ∀ (l : List (Nat × Nat)) (k : Nat), k + l.length ≤ n → runR ex n (fetR b l k) = some n := by
  intro l
  induction l with
  | nil => intro k _; rfl
  | cons r t ih =>
    intro k hk
    have hk2 : k + 1 + t.length ≤ n := by simp only [List.length_cons] at hk; omega
    unfold fetR
    by_cases h : turnR b r = r
    · rw [if_pos h]; exact ih (k + 1) hk2
    · rw [if_neg h]
      unfold runR
      rw [if_neg (by decide), if_neg (by decide), if_pos rfl, if_neg (by omega)]
      exact ih (k + 1) hk2
theorem run_tell (l b : List (Nat × Nat)) (expunge : Bool) : runR expunge l.length (tellR l b expunge) = some (syncL l b expunge).length := by
  have hlen : (syncL l b expunge).length = (keptL l b expunge).length + (newsL (keptL l b expunge) b).length := by unfold syncL; rw [List.length_append, List.length_map]
  have hrest : runR expunge (keptL l b expunge).length ((if newsL (keptL l b expunge) b = [] then [] else [(8, (keptL l b expunge).length + (newsL (keptL l b expunge) b).length)]) ++ fetR b (keptL l b expunge) 0) = some (syncL l b expunge).length := by
    rw [hlen]
    by_cases h : newsL (keptL l b expunge) b = []
    · rw [if_pos h, h]
      exact run_fet _ _ _ _ 0 (by simp)
    · rw [if_neg h]
      have hp : 0 < (newsL (keptL l b expunge) b).length := List.length_pos_iff.2 h
      simp only [List.cons_append, List.nil_append, runR]
      rw [if_neg (by decide), if_pos trivial, if_neg (by omega)]
      exact run_fet _ _ _ _ 0 (by omega)
  unfold tellR
  cases expunge with
  | false => exact hrest
  | true =>
    have := run_exp l b ((if newsL (keptL l b true) b = [] then [] else [(8, (keptL l b true).length + (newsL (keptL l b true) b).length)]) ++ fetR b (keptL l b true) 0) l.length 0 (Nat.le_refl _)
    rw [Nat.add_zero, List.take_length] at this
    exact this.trans hrest
end Go.Proofs.Ytcnebfmlelcliaa
namespace Go.Proofs.Ytcnebfmlelcliaa
open Go.RowKit

def flT : RT (List UInt8) where
  enc := fun l => [encStr l]
  K := 1
  t := 9
  ts := 58
  z := .string ⟨#[]⟩
  bytes := 16
  len := fun _ => rfl
  one := fun x u hu => by simp at hu; subst hu; rfl
  pos := by decide
  und := Try.underlying58
  info := by kernel_rfl
  zs := rfl
  bb := by decide
theorem flT_cells (l : List (List UInt8)) : flT.cells l = l.map encStr := by
  induction l with
  | nil => rfl
  | cons x r ih =>
    have h : flT.cells (x :: r) = encStr x :: flT.cells r := rfl
    rw [h, ih]; rfl
theorem FlIn.rd {W : World} {v : Value} {l : List (List UInt8)} (h : FlIn W v l) : Rd W v l.length (flT.cells l) := by rw [flT_cells]; exact h
theorem FlIn.of_own {W : World} {v : Value} {l : List (List UInt8)} (h : flT.Own W v l) : FlIn W v l := by have := h.rd; rwa [flT_cells] at this
/-- what a call hands back that makes a row -/
def RowRet {α : Type} (R : RT α) (l : List α) (W : World) (e : Ending) (w' : World) : Prop := ∃ v', e = .returned v' ∧ Hid (R.Own w' v' l) ∧ Hid (Below W.heap.size W w') ∧ Hid (∀ g, v'.ownBlock = some g → W.heap.size ≤ g)
set_option maxRecDepth 100000 in
set_option maxHeartbeats 2000000 in
theorem cloneFl_any {W : World} {v : Value} {l : List _} (h : Rd W v l.length (flT.cells l)) (hl : l.length ≤ 100000) :
    Calls Try.prog 41 #[v] W (RowRet flT l W) := by
  have h0 := Lib.hid h
  obtain ⟨ao, cap, rfl, h1⟩ := h
  cases ao with
  | none =>
    have e : l = [] := by
      rcases h1 with h | ⟨b, o, h, _⟩
      · exact List.eq_nil_of_length_eq_zero h
      · cases h
    subst e
    clear h1
    have he : ∀ W : World, (binOp .eql 58 (.slice none 0 cap) (.slice none 0 0)).run Try.prog W = .ok (.bool true) W := fun _ => rfl
    change Calls Try.prog 41 #[.slice none 0 cap] W _
    go_enter Try.func41, Try.ntmps41
    go_wp2_with fail
    go_ret
    exact ⟨_, rfl, Lib.hid (RT.Own.nil _ _), Lib.hid (Below.refl _ _), Lib.hid (fun g hg => by simp [Value.ownBlock] at hg)⟩
  | some p =>
    clear h1
    have he : ∀ W : World, (binOp .eql 58 (.slice (some p) l.length cap) (.slice none 0 0)).run Try.prog W = .ok (.bool false) W := fun _ => rfl
    go_enter Try.func41, Try.ntmps41
    go_wp2_with (at_builtin; refine flT.wpList_append rfl (.tmp 5) (.tmp 6) rfl _ _ [] l rfl rfl (RT.Own.empty flT W W.heap.size rfl) (h0.out.below ((Below.refl _ _).alloc (Nat.le_refl _) (.cells #[] 9))) (by simp; omega) ?_)
    intro v3 w4 hown hgr hat
    have hb : Below W.heap.size W w4 := ((Below.refl _ W).alloc (Nat.le_refl _) (.cells #[] 9)).grown hgr (by simp) (fun k hk => by simp [Value.ownBlock] at hk; omega)
    have hf : ∀ g, v3.ownBlock = some g → W.heap.size ≤ g := fun k hk => by
      rcases hat k hk with q | q
      · simp [Value.ownBlock] at q; omega
      · omega
    replace hb := Lib.hid hb
    replace hf := Lib.hid hf
    replace hown := Lib.hid hown
    clear hgr hat
    go_wp2_with fail
    go_ret
    exact ⟨_, rfl, hown, hb, hf⟩
set_option maxRecDepth 100000 in
set_option maxHeartbeats 2000000 in
theorem cloneLt_any {W : World} {v : Value} {l : List _} (h : Rd W v l.length (ltT.cells l)) (hl : l.length ≤ 100000) :
    Calls Try.prog 64 #[v] W (RowRet ltT l W) := by
  have h0 := Lib.hid h
  obtain ⟨ao, cap, rfl, h1⟩ := h
  cases ao with
  | none =>
    have e : l = [] := by
      rcases h1 with h | ⟨b, o, h, _⟩
      · exact List.eq_nil_of_length_eq_zero h
      · cases h
    subst e
    clear h1
    have he : ∀ W : World, (binOp .eql 26 (.slice none 0 cap) (.slice none 0 0)).run Try.prog W = .ok (.bool true) W := fun _ => rfl
    change Calls Try.prog 64 #[.slice none 0 cap] W _
    go_enter Try.func64, Try.ntmps64
    go_wp2_with fail
    go_ret
    exact ⟨_, rfl, Lib.hid (RT.Own.nil _ _), Lib.hid (Below.refl _ _), Lib.hid (fun g hg => by simp [Value.ownBlock] at hg)⟩
  | some p =>
    clear h1
    have he : ∀ W : World, (binOp .eql 26 (.slice (some p) l.length cap) (.slice none 0 0)).run Try.prog W = .ok (.bool false) W := fun _ => rfl
    go_enter Try.func64, Try.ntmps64
    go_wp2_with (at_builtin; refine ltT.wpList_append rfl (.tmp 5) (.tmp 6) rfl _ _ [] l rfl rfl (RT.Own.empty ltT W W.heap.size rfl) (h0.out.below ((Below.refl _ _).alloc (Nat.le_refl _) (.cells #[] 66))) (by simp; omega) ?_)
    intro v3 w4 hown hgr hat
    have hb : Below W.heap.size W w4 := ((Below.refl _ W).alloc (Nat.le_refl _) (.cells #[] 66)).grown hgr (by simp) (fun k hk => by simp [Value.ownBlock] at hk; omega)
    have hf : ∀ g, v3.ownBlock = some g → W.heap.size ≤ g := fun k hk => by
      rcases hat k hk with q | q
      · simp [Value.ownBlock] at q; omega
      · omega
    replace hb := Lib.hid hb
    replace hf := Lib.hid hf
    replace hown := Lib.hid hown
    clear hgr hat
    go_wp2_with fail
    go_ret
    exact ⟨_, rfl, hown, hb, hf⟩
end Go.Proofs.Ytcnebfmlelcliaa
namespace Go.Proofs.Ytcnebfmlelcliaa
open Go.RowKit

/-- slices that read as lists of flags, and that nobody writes -/
def flagsT (S : List (Value × List (List UInt8))) : Th := ⟨fun F W => (∀ k, F k → k < W.heap.size) ∧ ∀ p ∈ S, ∃ ao cap, p.1 = .slice ao p.2.length cap ∧ (p.2 = [] ∨ ∃ b o, ao = some ⟨b, o, none⟩ ∧ F b ∧ p.2.length ≤ cap ∧ ∀ i u, (p.2.map encStr)[i]? = some u → W.cell? ⟨b, o + i, none⟩ = some u),
  fun F W h k hk => h.1 k hk,
  fun F W W' h hk => ⟨fun k hF => (by
    have h1 := hk k hF
    have h2 := h.1 k hF
    rcases Nat.lt_or_ge k W'.heap.size with h3 | h3
    · exact h3
    · rw [Array.getElem?_eq_none h3, Array.getElem?_eq_getElem h2] at h1; cases h1), fun p hp => by
    obtain ⟨ao, cap, hv, h1⟩ := h.2 p hp
    refine ⟨ao, cap, hv, h1.imp id ?_⟩
    rintro ⟨b, o, ha, hF, hc, hcell⟩
    exact ⟨b, o, ha, hF, hc, fun i u hu => (World.cell?_of_block (hk b hF)).trans (hcell i u hu)⟩⟩⟩
variable {W0 W W' : World} {L L2 : List Th}
theorem Zoo.fl {S : List (Value × List (List UInt8))} (h : Zoo W0 W L) (i : Nat) (hi : L[i]? = some (flagsT S)) {v : Value} {l : List (List UInt8)} (hm : (v, l) ∈ S) : FlIn W v l := by
  obtain ⟨F, h1, _⟩ := h.get i _ hi
  obtain ⟨ao, cap, hv, h2⟩ := h1.2 _ hm
  refine ⟨ao, cap, hv, ?_⟩
  rcases h2 with h2 | ⟨b, o, ha, hF, hc, hcell⟩
  · left; dsimp only at h2; rw [h2]; rfl
  · exact .inr ⟨b, o, ha, h1.1 b hF, hc, hcell⟩
theorem flags_nil (h : Zoo W0 W L) : Zoo W0 W (flagsT [] :: L) := h.bare _ ⟨fun _ h => h.elim, fun p hp => by simp at hp⟩
/-- flags in new memory -/
theorem Zoo.addFl {S : List (Value × List (List UInt8))} (h : Zoo W0 W L) (i : Nat) (hi : L[i]? = some (flagsT S)) {v : Value} {l : List (List UInt8)} (hb : Below W.heap.size W W') (hr : FlIn W' v l) (hf : ∀ g, v.ownBlock = some g → W.heap.size ≤ g) : Zoo W0 W' (L.set i (flagsT ((v, l) :: S))) := by
  obtain ⟨F, h1, hlow, hact⟩ := h.act i _ hi
  obtain ⟨ao, cap, hv, hr⟩ := hr
  refine hact _ (fun k => F k ∨ (W.heap.size ≤ k ∧ k < W'.heap.size)) W' ⟨fun k hk => ?_, fun p hp => ?_⟩ ⟨hb.os, hb.tape, hb.output, hb.size, fun k hk _ => hb.block k hk, fun k hk => hk.imp id (fun h => h.1)⟩
  · rcases hk with hk | hk
    · exact Nat.lt_of_lt_of_le (h1.1 k hk) hb.size
    · exact hk.2
  · rcases List.mem_cons.1 hp with rfl | hp
    · refine ⟨ao, cap, hv, ?_⟩
      rcases hr with hr | ⟨b, o, ha, hlt, hc, hcell⟩
      · exact .inl (List.eq_nil_of_length_eq_zero hr)
      · exact .inr ⟨b, o, ha, .inr ⟨hf b (by rw [hv, ha]; rfl), hlt⟩, hc, hcell⟩
    · obtain ⟨ao, cap, hv, h2⟩ := h1.2 p hp
      refine ⟨ao, cap, hv, h2.imp id ?_⟩
      rintro ⟨b, o, ha, hF, hc, hcell⟩
      exact ⟨b, o, ha, .inl hF, hc, fun i u hu => (hb.cell (p := ⟨b, o + i, none⟩) (h1.1 b hF)).trans (hcell i u hu)⟩
/-- things made since W beside those from before -/
theorem Zoo.join (h : Zoo W0 W L) (h2 : Zoo W W' L2) : Zoo W0 W' (L2 ++ L) := by
  obtain ⟨h0, P, h1, hP⟩ := h.below h2.bel
  obtain ⟨g0, Q, g1, hQ⟩ := h2
  obtain ⟨k0, P', k1, kP⟩ := h
  refine ⟨h0, Q ++ P', by rw [List.map_append, g1, k1], ⟨fun x hx => ?_, fun x hx k hk => ?_, ?_⟩⟩
  · rcases List.mem_append.1 hx with hx | hx
    · exact hQ.holds x hx
    · exact x.1.below (kP.holds x hx) g0
  · rcases List.mem_append.1 hx with hx | hx
    · exact Nat.le_trans k0.size (hQ.low x hx k hk)
    · exact kP.low x hx k hk
  · refine List.pairwise_append.2 ⟨hQ.apart, kP.apart, fun x hx y hy k hk1 hk2 => ?_⟩
    have a := hQ.low x hx k hk1
    have b := y.1.lt _ _ (kP.holds y hy) k hk2
    omega
theorem perm_lift {α β : Type} (f : α → β) : ∀ {L L' : List β}, L.Perm L' → ∀ P : List α, P.map f = L → ∃ P', P.Perm P' ∧ P'.map f = L' := fun h => by
  induction h with
  | nil => intro P hP; exact ⟨P, List.Perm.refl _, hP⟩
  | cons x _ ih =>
    intro P hP
    match P, hP with
    | p :: P, hP =>
      simp only [List.map_cons, List.cons.injEq] at hP
      obtain ⟨P', h1, h2⟩ := ih P hP.2
      exact ⟨p :: P', h1.cons p, by rw [List.map_cons, h2, hP.1]⟩
  | swap x y l =>
    intro P hP
    match P, hP with
    | p :: q :: P, hP =>
      simp only [List.map_cons, List.cons.injEq] at hP
      exact ⟨q :: p :: P, List.Perm.swap q p P, by simp only [List.map_cons, hP.1, hP.2.1, hP.2.2]⟩
  | trans _ _ ih1 ih2 =>
    intro P hP
    obtain ⟨P1, h1, h2⟩ := ih1 P hP
    obtain ⟨P2, h3, h4⟩ := ih2 P1 h2
    exact ⟨P2, h1.trans h3, h4⟩
theorem Zoo.perm {L' : List Th} (h : Zoo W0 W L) (hp : L.Perm L') : Zoo W0 W L' := by
  obtain ⟨h0, P, h1, h2⟩ := h
  obtain ⟨P', hP, h3⟩ := perm_lift Prod.fst hp P h1
  exact ⟨h0, P', h3, ⟨fun x hx => h2.holds x (hP.mem_iff.2 hx), fun x hx => h2.low x (hP.mem_iff.2 hx), hP.pairwise h2.apart (fun h k h1 h2 => h k h2 h1)⟩⟩
theorem flags_sub {S S' : List (Value × List (List UInt8))} (h : Zoo W0 W L) (i : Nat) (hi : L[i]? = some (flagsT S)) (hs : ∀ p ∈ S', p ∈ S) : Zoo W0 W (L.set i (flagsT S')) :=
  h.turn i _ _ hi (fun _ h => ⟨h.1, fun p hp => h.2 p (hs p hp)⟩)
/-- two things are one -/
theorem Zoo.merge {a b c : Th} (h : Zoo W0 W (a :: b :: L)) (hm : ∀ F1 F2, a.holds F1 W → b.holds F2 W → c.holds (fun k => F1 k ∨ F2 k) W) : Zoo W0 W (c :: L) := by
  obtain ⟨h0, P, h1, h2⟩ := h
  match P, h1 with
  | x :: y :: P, h1 =>
    simp only [List.map_cons, List.cons.injEq] at h1
    obtain ⟨rfl, rfl, rfl⟩ := h1
    have ha := h2.apart
    simp only [List.pairwise_cons, List.mem_cons] at ha
    refine ⟨h0, (c, fun k => x.2 k ∨ y.2 k) :: P, rfl, ⟨fun z hz => ?_, fun z hz k hk => ?_, ?_⟩⟩
    · rcases List.mem_cons.1 hz with rfl | hz
      · exact hm _ _ (h2.holds x (by simp)) (h2.holds y (by simp))
      · exact h2.holds z (by simp [hz])
    · rcases List.mem_cons.1 hz with rfl | hz
      · rcases hk with hk | hk
        · exact h2.low x (by simp) k hk
        · exact h2.low y (by simp) k hk
      · exact h2.low z (by simp [hz]) k hk
    · refine List.pairwise_cons.2 ⟨fun z hz k hk1 hk2 => ?_, ha.2.2⟩
      rcases hk1 with hk1 | hk1
      · exact ha.1 z (.inr hz) k hk1 hk2
      · exact ha.2.1 z hz k hk1 hk2
theorem flags_merge {S S' : List (Value × List (List UInt8))} (h : Zoo W0 W (flagsT S :: flagsT S' :: L)) : Zoo W0 W (flagsT (S ++ S') :: L) :=
  h.merge (fun F1 F2 h1 h2 => ⟨fun k hk => by
    rcases hk with hk | hk
    · exact h1.1 k hk
    · exact h2.1 k hk, fun p hp => by
    rcases List.mem_append.1 hp with hp | hp
    · obtain ⟨ao, cap, hv, h⟩ := h1.2 p hp
      refine ⟨ao, cap, hv, h.imp id ?_⟩
      rintro ⟨b, o, ha, hF, r⟩
      exact ⟨b, o, ha, .inl hF, r⟩
    · obtain ⟨ao, cap, hv, h⟩ := h2.2 p hp
      refine ⟨ao, cap, hv, h.imp id ?_⟩
      rintro ⟨b, o, ha, hF, r⟩
      exact ⟨b, o, ha, .inr hF, r⟩⟩)
/-- the flags of these letters stand there -/
def HasL (S : List (Value × List (List UInt8))) (rows : List LtV) : Prop := ∀ y ∈ rows, (y.v, y.x.flags) ∈ S
def HasB (S : List (Value × List (List UInt8))) (bs : List BxV) : Prop := ∀ y ∈ bs, HasL S y.rows
theorem Zoo.ltsOk {S : List (Value × List (List UInt8))} {rows : List LtV} (h : Zoo W0 W L) (i : Nat) (hi : L[i]? = some (flagsT S)) (hh : HasL S rows) : LtsOk W rows := fun y hy => h.fl i hi (hh y hy)
end Go.Proofs.Ytcnebfmlelcliaa
namespace Go.Proofs.Ytcnebfmlelcliaa
set_option linter.unusedSimpArgs false
open Go.RowKit
attribute [local go_sem ↓] Go.wp_at_zero Go.wp_at_succ

def bxAgg (y : BxV) : Value := .agg (bxCells y).toArray
/-- rows of letters that say the same -/
def SameL (l l' : List LtV) : Prop := l.map LtV.x = l'.map LtV.x
theorem SameL.len {l l' : List LtV} (h : SameL l l') : l.length = l'.length := by have := congrArg List.length h; simpa using this
/-- a cell of a block of one's own is written -/
theorem Zoo.setBox {W0 W : World} {L : List Th} {B : Nat} {C : List Value} {t : TypeId} (h : Zoo W0 W L) (i : Nat) (hi : L[i]? = some (boxT B C.toArray t)) (j : Nat) (u : Value) : Zoo W0 (W.setCell ⟨B, j, none⟩ u) (L.set i (boxT B (C.set j u).toArray t)) := by
  obtain ⟨F, ⟨h1, hF⟩, hlow, hact⟩ := h.act i _ hi
  exact hact _ F _ ⟨cells_set h1 j u, hF⟩ ⟨rfl, rfl, rfl, by simp, fun k hk hn => heap_setCell_other W ⟨B, j, none⟩ k _ (fun e => hn ((hF k).2 e)), fun k hk => .inl hk⟩
def CloneBoxRet (W : World) (y : BxV) (e : Ending) (w' : World) : Prop := ∃ (z : BxV) (S : List (Value × List (List UInt8))), e = .returned (bxAgg z) ∧ Hid (z.b = y.b ∧ HasL S z.rows) ∧ Hid (Zoo W w' [ltT.row z.v z.rows, flagsT S])
set_option maxRecDepth 100000 in
set_option maxHeartbeats 8000000 in
theorem cloneBox_any (y : BxV) (W : World) (hin : LtsIn W y.v y.rows) (hl : y.rows.length ≤ 100000) (hfl : ∀ z ∈ y.rows, z.x.flags.length ≤ 100000) :
    Calls Try.prog 53 #[bxAgg y] W (CloneBoxRet W y) := by
  obtain ⟨name, val, next, high, rows, a, c⟩ := y
  dsimp only at hl hfl
  have hin0 := Lib.hid (fun (W' : World) (h : Below W.heap.size W W') => hin.below h)
  have hz1 := ((Zoo.nil W).newBox [.string name, .int .u64 val, .int .u64 next, .int .u64 high, .slice a rows.length c].toArray 28).newBox [.string ⟨#[]⟩, .int .u64 0, .int .u64 0, .int .u64 0, .slice none 0 0].toArray 28
  have hs1 : (W.alloc (.cells [.string name, .int .u64 val, .int .u64 next, .int .u64 high, .slice a rows.length c].toArray 28)).heap.size = W.heap.size + 1 := by simp
  rw [hs1] at hz1
  have hc := cloneLt_any (hin0.out _ hz1.bel).1 hl
  replace hz1 := Lib.hid hz1
  replace hc := Lib.hid hc
  replace hfl := Lib.hid hfl
  clear hin hs1
  unfold bxAgg bxCells BxV.v
  dsimp only
  go_enter Try.func53, Try.ntmps53
  go_wp2_with fail
  refine hc.out.mono ?_
  rintro e w2 ⟨v2, rfl, ho2, hb2, hf2⟩
  have hz2 := hz1.out.newRow hb2.out ho2.out hf2.out
  obtain ⟨a2, c2, hv2⟩ := ho2.out.len
  obtain ⟨hbx, -⟩ := hz2.box 2 rfl
  have c4 : w2.cell? ⟨W.heap.size, 4, none⟩ = some (.slice a rows.length c) := box_cell hbx 4
  have f4 := box_free hbx 4
  have hz3 := hz2.setBox 2 rfl 4 v2
  subst hv2
  replace hz3 := Lib.hid hz3
  clear hc hz1 hz2 ho2 hb2 hf2 hbx
  go_wp2_with fail
  replace hz3 : Hid (Zoo W (w2.setCell ⟨W.heap.size, 4, none⟩ (.slice a2 rows.length c2)) [ltT.row (.slice a2 rows.length c2) rows, boxT (W.heap.size + 1) [.string ⟨#[]⟩, .int .u64 0, .int .u64 0, .int .u64 0, .slice none 0 0].toArray 28, boxT W.heap.size [.string name, .int .u64 val, .int .u64 next, .int .u64 high, .slice a2 rows.length c2].toArray 28]) := hz3
  have hz4 := Lib.hid ((flags_nil hz3.out).perm (List.Perm.swap _ _ _))
  clear hz3 c4 f4
  generalize hB1 : W.heap.size = B1 at hz4 ⊢
  replace hB1 := Lib.hid hB1
  go_loopw [11] (fun v11 wr => ∃ (k : Nat) (done : List LtV) (S : List (Value × List (List UInt8))), v11 = .int .i64 k ∧ k ≤ rows.length ∧ Hid (done.length = k ∧ SameL done (rows.take k) ∧ HasL S done) ∧ Hid (Zoo W wr [ltT.row (.slice a2 rows.length c2) (done ++ rows.drop k), flagsT S, boxT (B1 + 1) [.string ⟨#[]⟩, .int .u64 0, .int .u64 0, .int .u64 0, .slice none 0 0].toArray 28, boxT B1 [.string name, .int .u64 val, .int .u64 next, .int .u64 high, .slice a2 rows.length c2].toArray 28])) (fun v11 _ => rows.length - (intOf v11).toNat)
  case atStart => exact ⟨0, [], [], rfl, Nat.zero_le _, Lib.hid ⟨rfl, rfl, fun y hy => by simp at hy⟩, hz4⟩
  case round =>
    clear hz4
    obtain ⟨k, done, S, rfl, hk, hd, hz⟩ := hrel
    have hlen : (done ++ rows.drop k).length = rows.length := by rw [List.length_append, hd.out.1, List.length_drop]; omega
    by_cases hlt : k < rows.length
    · have hl1 : (k : Int) < (rows.length : Int) := by omega
      have hget : (done ++ rows.drop k)[k]'(by omega) = rows[k] := by
        rw [List.getElem_append_right (by rw [hd.out.1]; exact Nat.le_refl _), List.getElem_drop]
        congr 1
        rw [hd.out.1]; omega
      obtain ⟨x, hx⟩ : ∃ x, rows[k] = x := ⟨_, rfl⟩
      have hxm : x ∈ rows := by rw [← hx]; exact List.getElem_mem hlt
      obtain ⟨hbx, -⟩ := hz.out.box 3 rfl
      have c4 : wr.cell? ⟨B1, 4, none⟩ = some (.slice a2 rows.length c2) := box_cell hbx 4
      obtain ⟨g, cap, hv, hcap, hg, hcells⟩ := (hz.out.own 0 rfl).cells (j := k) (by omega)
      rw [hlen] at hv hcap
      injection hv with e1 e2 e3
      subst e1 e3
      have r1 := hcells 1 (by decide)
      rw [hget, hx] at r1
      replace r1 : wr.cell? ⟨g, k * 5 + 1, none⟩ = some x.v := r1
      have hfr := (hin0.out wr hz.out.bel).2 x hxm
      have hc := Lib.hid (cloneFl_any (hfr.rd.below ((Below.refl _ wr).drew)) (hfl.out x hxm))
      obtain ⟨y, xa, xc⟩ := x
      unfold LtV.v at hc r1
      dsimp only at hc r1
      have hbw : (g : Nat) = g := rfl
      clear hcells hbx hfr
      replace hx := Lib.hid hx
      replace hget := Lib.hid hget
      replace hlen := Lib.hid hlen
      go_wp2_with fail
      refine wp_region_hd (fun w' => w'.cell? ⟨B1, 4, none⟩ = some (.slice (some ⟨g, 0, none⟩) rows.length c2) ∧ w'.cell? ⟨g, k * 5 + 1, none⟩ = some (.slice xa y.flags.length xc)) 10 3 (by kernel_rfl) rfl ⟨by kernel_rfl, by kernel_rfl, by kernel_rfl, by decide⟩ ⟨c4, r1⟩ (fun hok hS0 => ?_)
      refine Hd.take (i := 0) (v := ?tv1) hok rfl (by kernel_rfl) (fun _ _ _ h => h) (Or.inl ⟨by rfl, ?ty1⟩) (by assumption) ?tr1
      case ty1 => (intro w hSw; (try dsimp only at hSw); go_simp; (try with_reducible rfl))
      try simp only [List.getElem_toArray, List.getElem_cons_succ, List.getElem_cons_zero, Act.put, List.setIfInBounds_toArray, List.set_cons_zero, List.set_cons_succ]
      refine Hd.take (i := 1) (v := ?tv2) hok rfl (by kernel_rfl) (fun _ _ _ h => h) (Or.inl ⟨by rfl, ?ty2⟩) (by assumption) ?tr2
      case ty2 => (intro w hSw; (try dsimp only at hSw); go_simp; (try with_reducible rfl))
      try simp only [List.getElem_toArray, List.getElem_cons_succ, List.getElem_cons_zero, Act.put, List.setIfInBounds_toArray, List.set_cons_zero, List.set_cons_succ]
      refine Hd.take (i := 2) (v := ?tv3) hok rfl (by kernel_rfl) (fun _ _ _ h => h) (Or.inl ⟨by rfl, ?ty3⟩) (by assumption) ?tr3
      case ty3 => (intro w hSw; (try dsimp only at hSw); go_simp; (try with_reducible rfl))
      try simp only [List.getElem_toArray, List.getElem_cons_succ, List.getElem_cons_zero, Act.put, List.setIfInBounds_toArray, List.set_cons_zero, List.set_cons_succ]
      refine Hd.take (i := 3) (v := ?tv4) hok rfl (by kernel_rfl) (fun _ _ _ h => h) (Or.inl ⟨by rfl, ?ty4⟩) (by assumption) ?tr4
      case ty4 => (intro w hSw; (try dsimp only at hSw); go_simp; (try with_reducible rfl))
      try simp only [List.getElem_toArray, List.getElem_cons_succ, List.getElem_cons_zero, Act.put, List.setIfInBounds_toArray, List.set_cons_zero, List.set_cons_succ]
      refine Hd.take (i := 4) (v := ?tv5) hok rfl (by kernel_rfl) (fun _ _ _ h => h) (Or.inl ⟨by rfl, ?ty5⟩) (by assumption) ?tr5
      case ty5 => (intro w hSw; (try dsimp only at hSw); go_simp; (try with_reducible rfl))
      try simp only [List.getElem_toArray, List.getElem_cons_succ, List.getElem_cons_zero, Act.put, List.setIfInBounds_toArray, List.set_cons_zero, List.set_cons_succ]
      refine Hd.take (i := 5) (v := ?tv6) hok rfl (by kernel_rfl) (fun _ _ _ h => h) (Or.inl ⟨by rfl, ?ty6⟩) (by assumption) ?tr6
      case ty6 => (intro w hSw; (try dsimp only at hSw); go_simp; (try with_reducible rfl))
      try simp only [List.getElem_toArray, List.getElem_cons_succ, List.getElem_cons_zero, Act.put, List.setIfInBounds_toArray, List.set_cons_zero, List.set_cons_succ]
      refine Hd.take (i := 6) (v := ?tv7) hok rfl (by kernel_rfl) (fun _ _ _ h => h) (Or.inl ⟨by rfl, ?ty7⟩) (by assumption) ?tr7
      case ty7 => (intro w hSw; (try dsimp only at hSw); go_simp; (try with_reducible rfl))
      try simp only [List.getElem_toArray, List.getElem_cons_succ, List.getElem_cons_zero, Act.put, List.setIfInBounds_toArray, List.set_cons_zero, List.set_cons_succ]
      refine Hd.take (i := 7) (v := ?tv8) hok rfl (by kernel_rfl) (fun _ _ _ h => h) (Or.inl ⟨by rfl, ?ty8⟩) (by assumption) ?tr8
      case ty8 => (intro w hSw; (try dsimp only at hSw); go_simp; (try with_reducible rfl))
      try simp only [List.getElem_toArray, List.getElem_cons_succ, List.getElem_cons_zero, Act.put, List.setIfInBounds_toArray, List.set_cons_zero, List.set_cons_succ]
      refine Hd.take (i := 8) (v := ?tv9) hok rfl (by kernel_rfl) (fun _ _ _ h => h) (Or.inl ⟨by rfl, ?ty9⟩) (by assumption) ?tr9
      case ty9 => (intro w hSw; (try dsimp only at hSw); go_simp; (try with_reducible rfl))
      try simp only [List.getElem_toArray, List.getElem_cons_succ, List.getElem_cons_zero, Act.put, List.setIfInBounds_toArray, List.set_cons_zero, List.set_cons_succ]
      refine Hd.one (i := 9) rfl (by kernel_rfl) (fun K hK => ?_)
      go_simp
      refine hc.out.mono ?_
      rintro e w3 ⟨v3, rfl, ho3, hb3, hf3⟩
      dsimp only
      refine hK _ _ ⟨(hb3.out.cell (p := ⟨B1, 4, none⟩) (by have := (World.block_lt_of_cell? _ _ c4); exact this)).trans c4, (hb3.out.cell (p := ⟨g, k * 5 + 1, none⟩) hg).trans r1⟩ ?_
      clear hK K
      try simp only [List.getElem_toArray, List.getElem_cons_succ, List.getElem_cons_zero, Act.put, List.setIfInBounds_toArray, List.set_cons_zero, List.set_cons_succ]
      refine Hd.done (by kernel_rfl) ?_
      simp only [List.drop_succ_cons, List.drop_zero]
      obtain ⟨a3, c3, hv3⟩ := ho3.out.len
      have hz5 := hz.out.drew.addFl 1 rfl hb3.out (FlIn.of_own ho3.out) hf3.out
      obtain ⟨g', cap', hv, -, -, -, hfr, hz6⟩ := hz5.putField 0 rfl k (by rw [hlen.out]; exact hlt) 1 (by decide) v3 ⟨y, a3, c3⟩ (by rw [hget.out, hx.out, hv3]; rfl)
      rw [hlen.out] at hv
      injection hv with e1 e2 e3
      injection e1 with e1
      injection e1 with e1
      subst e1
      have f1 := hfr (k * 5 + 1)
      have r3 := (hb3.out.cell (p := ⟨g, k * 5 + 1, none⟩) hg).trans r1
      have hd2 : Hid ((done ++ [(⟨y, a3, c3⟩ : LtV)]).length = k + 1 ∧ SameL (done ++ [(⟨y, a3, c3⟩ : LtV)]) (rows.take (k + 1)) ∧ HasL ((v3, y.flags) :: S) (done ++ [(⟨y, a3, c3⟩ : LtV)])) := Lib.hid (by
        refine ⟨by rw [List.length_append, hd.out.1]; rfl, ?_, fun z hz => ?_⟩
        · have := hd.out.2.1
          unfold SameL at this ⊢
          rw [List.take_succ_eq_append_getElem hlt, List.map_append, List.map_append, this, hx.out]; rfl
        · rcases List.mem_append.1 hz with hz | hz
          · exact List.mem_cons_of_mem _ (hd.out.2.2 z hz)
          · simp only [List.mem_singleton] at hz
            subst hz
            exact List.mem_cons.2 (.inl (by rw [hv3]; rfl)))
      have hst : (done ++ rows.drop k).set k ⟨y, a3, c3⟩ = (done ++ [(⟨y, a3, c3⟩ : LtV)]) ++ rows.drop (k + 1) := by
        rw [List.set_append_right _ _ (by rw [hd.out.1]; exact Nat.le_refl _), hd.out.1, Nat.sub_self, List.drop_eq_getElem_cons hlt, List.append_assoc]; rfl
      have hz7 : Hid (Zoo W (w3.setCell ⟨g, k * 5 + 1, none⟩ v3) [ltT.row (.slice (some ⟨g, 0, none⟩) rows.length c2) ((done ++ [(⟨y, a3, c3⟩ : LtV)]) ++ rows.drop (k + 1)), flagsT ((v3, y.flags) :: S), boxT (B1 + 1) [.string ⟨#[]⟩, .int .u64 0, .int .u64 0, .int .u64 0, .slice none 0 0].toArray 28, boxT B1 [.string name, .int .u64 val, .int .u64 next, .int .u64 high, .slice (some ⟨g, 0, none⟩) rows.length c2].toArray 28]) := Lib.hid (by rw [← hst]; exact hz6)
      subst hv3
      clear hz hz5 hz6 hfr hst hc ho3 hb3 hf3 hok hS0 c4 r1 hd hx hget hlen
      go_wp2_with fail
      go_roundw
      case rel => exact ⟨k + 1, _, _, by go_num, by omega, hd2, hz7⟩
      case measure => simp [intOf] <;> omega
    · have hl1 : (rows.length : Int) ≤ (k : Int) := by omega
      obtain rfl : k = rows.length := by omega
      obtain ⟨hbx, -⟩ := hz.out.box 3 rfl
      obtain ⟨hby, -⟩ := hz.out.box 2 rfl
      have c0 : wr.cell? ⟨B1, 0, none⟩ = some (.string name) := box_cell hbx 0
      have c1 : wr.cell? ⟨B1, 1, none⟩ = some (.int .u64 val) := box_cell hbx 1
      have c2' : wr.cell? ⟨B1, 2, none⟩ = some (.int .u64 next) := box_cell hbx 2
      have c3 : wr.cell? ⟨B1, 3, none⟩ = some (.int .u64 high) := box_cell hbx 3
      have c4 : wr.cell? ⟨B1, 4, none⟩ = some (.slice a2 rows.length c2) := box_cell hbx 4
      have d0 : wr.cell? ⟨B1 + 1, 0, none⟩ = some (.string ⟨#[]⟩) := box_cell hby 0
      have d1 : wr.cell? ⟨B1 + 1, 1, none⟩ = some (.int .u64 0) := box_cell hby 1
      have d2 : wr.cell? ⟨B1 + 1, 2, none⟩ = some (.int .u64 0) := box_cell hby 2
      have d3 : wr.cell? ⟨B1 + 1, 3, none⟩ = some (.int .u64 0) := box_cell hby 3
      have d4 : wr.cell? ⟨B1 + 1, 4, none⟩ = some (.slice none 0 0) := box_cell hby 4
      have f0 := box_free hby
      have hz5 := ((((hz.out.setBox 2 rfl 0 (.string name)).setBox 2 rfl 1 (.int .u64 val)).setBox 2 rfl 2 (.int .u64 next)).setBox 2 rfl 3 (.int .u64 high)).setBox 2 rfl 4 (.slice a2 rows.length c2)
      obtain ⟨hbz, -⟩ := hz5.box 2 rfl
      rw [List.drop_length, List.append_nil] at hz5
      have hz6 := Lib.hid (hz5.sub (L' := [ltT.row (.slice a2 rows.length c2) done, flagsT S]) (by simp))
      replace hbz := Lib.hid hbz
      clear hz5 hz hbx hby
      go_wp2_with fail
      refine bodyPost_ret (results_cell_row rfl _ _ _ 28 _ (0, 0) _ rfl hbz.out Try.underlying28 rfl rfl) rfl ?_
      have hdl : done.length = rows.length := hd.out.1
      have hsame := hd.out.2.1
      rw [List.take_length] at hsame
      refine ⟨⟨name, val, next, high, done, a2, c2⟩, S, by simp [bxAgg, bxCells, BxV.v, hdl], Lib.hid ⟨?_, hd.out.2.2⟩, Lib.hid ?_⟩
      · unfold BxV.b
        dsimp only
        rw [show done.map LtV.x = rows.map LtV.x from hsame]
      · unfold BxV.v
        dsimp only
        rw [hdl]; exact hz6.out
end Go.Proofs.Ytcnebfmlelcliaa
