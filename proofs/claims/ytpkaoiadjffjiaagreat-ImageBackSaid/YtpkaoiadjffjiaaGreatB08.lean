/- ContainsFunc with the closure of mail's Right: walked. (written by tools/gen_MnI.py) An operation on a right state leaves a right state: plain. hash, begun: walked. begun: walked. -/
import Derived.Test.YtpkaoiadjffjiaaGreatB05
import Derived.Laws.EntriesVeiled
import Derived.Test.YtpkaoiadjffjiaaGreatB06
namespace Go.Proofs.YtpkaoiadjffjiaaGreat
set_option linter.unusedSimpArgs false
open Go.RowKit

theorem twinOne_any (x : BxV) (va : Nat) (X : Nat) (W : World) (hX : W.cell? ⟨X, 1, none⟩ = some (.int .u64 va)) :
    Calls Tryz.prog 44 #[.agg #[.string x.name, .int .u64 x.validity, .int .u64 x.next, .int .u64 x.high, .slice x.a x.rows.length x.c], .pointer (some ⟨X, 0, none⟩)] W fun e w' => e = .returned (.bool (x.validity == va)) ∧ Hid (Below W.heap.size W w') := by
  have hXlt : X < W.heap.size := World.block_lt_of_cell? W ⟨X, 1, none⟩ hX
  have hXs : X ≠ W.heap.size := by omega
  go_enter Tryz.func44, Tryz.ntmps44
  go_wp2_with fail
  all_goals
    go_ret
    exact ⟨ret_bool (by first | rfl | (exact beq_cast _ _)), Lib.hid ((Below.refl _ W).alloc (Nat.le_refl _) _)⟩
set_option maxRecDepth 100000 in
set_option maxHeartbeats 4000000 in
theorem twinIdx_any (v : Value) (l : List BxV) (va : Nat) (X : Nat) (hlen : l.length ≤ 100000) (W : World) (ho : Rd W v l.length (bxT.cells l)) (hX : W.cell? ⟨X, 1, none⟩ = some (.int .u64 va)) :
    Calls Tryz.prog 55 #[v, .func (.func 44) #[] #[.pointer (some ⟨X, 0, none⟩)]] W fun e w' => ∃ r : Int, e = .returned (.int .i64 r) ∧ Hid (r = idxI (fun x => x.validity == va) l) ∧ Hid (Below W.heap.size W w') := by
  have hXlt : X < W.heap.size := World.block_lt_of_cell? W ⟨X, 1, none⟩ hX
  have hf := Lib.hid (fun x W2 (h : Below W.heap.size W W2) => twinOne_any x va X W2 ((h.cell (p := ⟨X, 1, none⟩) hXlt).trans hX))
  obtain ⟨ao, cap, hv, -⟩ := id ho
  subst hv
  replace ho := Lib.hid ho
  obtain ⟨p, hp⟩ : ∃ p : BxV → Bool, p = (fun x => x.validity == va) := ⟨_, rfl⟩
  rw [← hp]
  have hpx : Hid (∀ x, (x.validity == va) = p x) := Lib.hid (fun x => by rw [hp])
  clear hp hX hXlt
  go_enter Tryz.func55, Tryz.ntmps55
  go_wp2_with fail
  go_loopw [8] (fun v8 wr => ∃ i : Nat, v8 = .int .i64 i ∧ i ≤ l.length ∧ Hid (∀ k (_ : k < i) (h2 : k < l.length), p l[k] = false) ∧ Hid (Below W.heap.size W wr)) (fun v8 _ => l.length - (intOf v8).toNat)
  case atStart => exact ⟨0, rfl, Nat.zero_le _, Lib.hid (fun k hk => by omega), Lib.hid (Below.refl _ _)⟩
  case round =>
    obtain ⟨i, rfl, hi, hno, hb⟩ := hrel
    by_cases hlt : i < l.length
    · obtain ⟨b, o, cap', hv, -, hblt, hcells⟩ := bxT.rd_cells (ho.out.below hb.out) hlt
      injection hv with hv1 hv2 hv3
      subst hv1 hv3
      obtain ⟨x, hx⟩ : ∃ x, l[i] = x := ⟨_, rfl⟩
      have r0 : wr.cell? ⟨b, o + i * 5, none⟩ = some (.string x.name) := by have := hcells 0 _ (by rw [hx]; rfl); rwa [show o + (i * bxT.K + 0) = o + i * 5 from by simp only [bxT]; omega] at this
      have r1 : wr.cell? ⟨b, o + i * 5 + 1, none⟩ = some (.int .u64 x.validity) := by have := hcells 1 _ (by rw [hx]; rfl); rwa [show o + (i * bxT.K + 1) = o + i * 5 + 1 from by simp only [bxT]; omega] at this
      have r2 : wr.cell? ⟨b, o + i * 5 + 2, none⟩ = some (.int .u64 x.next) := by have := hcells 2 _ (by rw [hx]; rfl); rwa [show o + (i * bxT.K + 2) = o + i * 5 + 2 from by simp only [bxT]; omega] at this
      have r3 : wr.cell? ⟨b, o + i * 5 + 3, none⟩ = some (.int .u64 x.high) := by have := hcells 3 _ (by rw [hx]; rfl); rwa [show o + (i * bxT.K + 3) = o + i * 5 + 3 from by simp only [bxT]; omega] at this
      have r4 : wr.cell? ⟨b, o + i * 5 + 4, none⟩ = some (.slice x.a x.rows.length x.c) := by have := hcells 4 _ (by rw [hx]; rfl); rwa [show o + (i * bxT.K + 4) = o + i * 5 + 4 from by simp only [bxT]; omega] at this
      have hcall := hf.out x wr hb.out
      rw [hpx.out x] at hcall
      have hl1 : (i : Int) < (l.length : Int) := by omega
      cases hq : p x with
      | true =>
        have hfound := Lib.hid (idxI_some hlt (by rw [hx]; exact hq) (fun k hk => hno.out k hk (by omega)) : idxI p l = (i : Int))
        rw [hq] at hcall
        replace hcall := Lib.hid hcall
        replace hx := Lib.hid hx
        clear hcells hq hno
        go_wp2_with fail
        refine hcall.out.mono ?_
        rintro e w1 ⟨rfl, hb1⟩
        have hB := Lib.hid (hb.out.trans (hb1.out.mono hb.out.size))
        clear hcall hb1
        go_wp2_with fail
        go_ret
        exact ⟨_, rfl, Lib.hid hfound.out.symm, hB⟩
      | false =>
        have hno2 : Hid (∀ k (_ : k < i + 1) (h2 : k < l.length), p l[k] = false) := Lib.hid (fun k hk h2 => by
          by_cases e : k = i
          · subst e; rw [hx]; exact hq
          · exact hno.out k (by omega) h2)
        rw [hq] at hcall
        replace hcall := Lib.hid hcall
        replace hx := Lib.hid hx
        clear hcells hq hno
        go_wp2_with fail
        refine hcall.out.mono ?_
        rintro e w1 ⟨rfl, hb1⟩
        have hB := Lib.hid (hb.out.trans (hb1.out.mono hb.out.size))
        clear hcall hb1
        go_wp2_with fail
        go_roundw
        case rel => exact ⟨i + 1, by go_num, by omega, hno2, hB⟩
        case measure => simp [intOf] <;> omega
    · have hnone := Lib.hid (idxI_none (fun k hk => hno.out k (by omega) hk) : idxI p l = -1)
      have hl1 : (l.length : Int) ≤ (i : Int) := by omega
      go_wp2_with fail
      go_ret
      exact ⟨_, rfl, Lib.hid hnone.out.symm, hb⟩
theorem noTwin_any (v : Value) (l : List BxV) (va : Nat) (X : Nat) (hlen : l.length ≤ 100000) (W : World) (ho : Rd W v l.length (bxT.cells l)) (hX : W.cell? ⟨X, 1, none⟩ = some (.int .u64 va)) (hno : ∀ x ∈ l, x.validity ≠ va) :
    Calls Tryz.prog 43 #[v, .func (.func 44) #[] #[.pointer (some ⟨X, 0, none⟩)]] W fun e w' => e = .returned (.bool false) ∧ Hid (Below W.heap.size W w') := by
  have hidx := Lib.hid (twinIdx_any v l va X hlen W ho hX)
  have hnone := Lib.hid (idxI_none (p := fun x : BxV => x.validity == va) (l := l) (fun k hk => by have := hno _ (List.getElem_mem hk); simpa using this))
  obtain ⟨ao, cap, hv, -⟩ := ho
  subst hv
  clear hX hno
  go_enter Tryz.func43, Tryz.ntmps43
  go_wp2_with fail
  refine hidx.out.mono ?_
  rintro e w2 ⟨r, rfl, hr, hb2⟩
  obtain rfl : r = -1 := hr.out.trans hnone.out
  clear hidx hnone hr
  go_wp2_with fail
  go_ret
  exact ⟨rfl, hb2⟩
end Go.Proofs.YtpkaoiadjffjiaaGreat
namespace Go.Proofs.YtpkaoiadjffjiaaGreat
set_option linter.unusedSimpArgs false
open Go.RowKit

theorem pw_set {α : Type} {R : α → α → Prop} {l : List α} (h : l.Pairwise R) {i : Nat} (hi : i < l.length) (b : α) (h1 : ∀ x, R x l[i] → R x b) (h2 : ∀ x, R l[i] x → R b x) : (l.set i b).Pairwise R := by
  rw [List.pairwise_iff_getElem] at h ⊢
  intro j k hj hk hjk
  rw [List.length_set] at hj hk
  rw [List.getElem_set, List.getElem_set]
  by_cases e : i = j
  · subst e
    rw [if_pos rfl, if_neg (by omega)]
    exact h2 _ (h _ _ hj hk hjk)
  · rw [if_neg e]
    by_cases e2 : i = k
    · subst e2
      rw [if_pos rfl]
      exact h1 _ (h _ _ hj hk hjk)
    · rw [if_neg e2]
      exact h _ _ hj hk hjk
theorem mem_set_out {α : Type} {l : List α} {i : Nat} {b x : α} (hx : x ∈ l.set i b) : x ∈ l ∨ x = b := List.mem_or_eq_of_mem_set hx
theorem mem_set_in {α : Type} {l : List α} {i : Nat} (b : α) {x : α} (hi : i < l.length) (hx : x ∈ l) : x = l[i] ∨ x ∈ l.set i b := by
  obtain ⟨j, hj, rfl⟩ := List.mem_iff_getElem.1 hx
  by_cases e : i = j
  · subst e; exact .inl rfl
  · exact .inr (List.mem_iff_getElem.2 ⟨j, by rw [List.length_set]; exact hj, by rw [List.getElem_set, if_neg e]⟩)
theorem self_set {α : Type} {l : List α} {i : Nat} (b : α) (hi : i < l.length) : b ∈ l.set i b := List.mem_iff_getElem.2 ⟨i, by rw [List.length_set]; exact hi, by rw [List.getElem_set, if_pos rfl]⟩
theorem insS_pw {α : Type} (lt : α → α → Bool) (f : α) {R : α → α → Prop} : ∀ l : List α, l.Pairwise R → (∀ x ∈ l, R f x ∧ R x f) → (insS lt f l).Pairwise R
  | [], _, _ => by simp [insS]
  | a :: r, h, h2 => by
    have h' := List.pairwise_cons.1 h
    unfold insS
    split
    · exact List.pairwise_cons.2 ⟨fun y hy => (h2 y hy).1, h⟩
    · refine List.pairwise_cons.2 ⟨fun y hy => ?_, insS_pw lt f r h'.2 (fun x hx => h2 x (List.mem_cons_of_mem _ hx))⟩
      rcases (mem_insS lt f y r).1 hy with rfl | hy
      · exact (h2 a (by simp)).2
      · exact h'.1 y hy
/-- a row in order, one put among it -/
theorem insS_ord {α : Type} (lt : α → α → Bool) (f : α) (ht : ∀ x y z : α, lt x y = true → lt y z = true → lt x z = true) : ∀ l : List α, l.Pairwise (fun x y => lt x y = true) → (∀ x ∈ l, lt f x = false → lt x f = true) → (insS lt f l).Pairwise (fun x y => lt x y = true)
  | [], _, _ => by simp [insS]
  | a :: r, h, h2 => by
    have h' := List.pairwise_cons.1 h
    unfold insS
    split
    · rename_i hl
      refine List.pairwise_cons.2 ⟨fun y hy => ?_, h⟩
      rcases List.mem_cons.1 hy with rfl | hy
      · exact hl
      · exact ht _ _ _ hl (h'.1 y hy)
    · rename_i hl
      refine List.pairwise_cons.2 ⟨fun y hy => ?_, insS_ord lt f ht r h'.2 (fun x hx => h2 x (List.mem_cons_of_mem _ hx))⟩
      rcases (mem_insS lt f y r).1 hy with rfl | hy
      · exact h2 a (by simp) (by simpa using hl)
      · exact h'.1 y hy
theorem name_eq {x : Bx} {n : ByteArray} (h : (x.name.toList == n.toList) = true) : x.name.data.toList = n.data.toList := by
  rw [eq_str] at h
  exact eq_of_beq h
theorem name_ne {x : Bx} {n : ByteArray} (h : (x.name.toList == n.toList) = false) : x.name.data.toList ≠ n.data.toList := fun e => by
  rw [eq_str, e] at h
  simp at h
theorem SeatsP.box {m m' : Ml} (h : SeatsP m) (h1 : m'.homes = m.homes) (h2 : m'.seats = m.seats) (h3 : m'.ns = m.ns) : SeatsP m' := by
  refine ⟨?_, ?_, ?_, ?_, ?_⟩
  · rw [h1]; exact h.homes
  · rw [h1]; exact h.hup
  · rw [h2]; exact fun x hx => ⟨(h.seats x hx).s1, by rw [h3]; exact (h.seats x hx).s2, (h.seats x hx).t1, by rw [h1]; exact (h.seats x hx).home⟩
  · rw [h2]; exact h.sup
  · rw [h2]; exact h.twin
theorem RightP.setM {m : Ml} (h : RightP m) {i : Nat} (hi : i < m.boxes.length) (b : Bx) (hn : b.name = m.boxes[i].name) (hv : b.validity = m.boxes[i].validity) (hb : BoxP b m.nv) : RightP (setM m i b) where
  lb := by show (m.boxes.set i b).length ≤ 8; rw [List.length_set]; exact h.lb
  nv := h.nv
  ns1 := h.ns1
  ns2 := h.ns2
  sw := h.sw
  ls := h.ls
  boxes := fun x hx => by
    rcases mem_set_out hx with hx | rfl
    · exact h.boxes x hx
    · exact hb
  names := pw_set h.names hi b (fun x hx => by unfold bxltB at hx ⊢; rw [hn]; exact hx) (fun x hx => by unfold bxltB at hx ⊢; rw [hn]; exact hx)
  vals := pw_set h.vals hi b (fun x hx => by rw [hv]; exact hx) (fun x hx => by rw [hv]; exact hx)
  inbox := by
    obtain ⟨x, hx, e⟩ := h.inbox
    rcases mem_set_in b hi hx with rfl | hx
    · exact ⟨b, self_set b hi, by rw [hn]; exact e⟩
    · exact ⟨x, hx, e⟩
  seated := h.seated.box rfl rfl rfl
theorem LetP.more {x : Lt} {b b' : Bx} (h : LetP x b) (h1 : b.next ≤ b'.next) (h2 : b.high ≤ b'.high) : LetP x b' := ⟨h.u1, by have := h.u2; omega, h.fl, h.m1, by have := h.m2; omega, h.hs, h.sz⟩
theorem look_right {m : Ml} {q : Rq} {o : Oc} (h : RightP m) : RightP (lookM m q o).2.1 := h
theorem sweep_right {m : Ml} {q : Rq} {o : Oc} (h : RightP m) : RightP (sweepM m q o).2.1 := by
  unfold sweepM
  split
  · exact h
  · exact ⟨h.lb, h.nv, h.ns1, h.ns2, by have := h.sw; show m.sweeps + 1 ≤ _; omega, h.ls, h.boxes, h.names, h.vals, h.inbox, h.seated.box rfl rfl rfl⟩
theorem end_right {m : Ml} {q : Rq} {o : Oc} (h : RightP m) : RightP (endM m q o).2.1 := by
  have hs : (m.seats.filter (fun x => !(x.session == q.session))).Sublist m.seats := List.filter_sublist
  exact ⟨h.lb, h.nv, h.ns1, h.ns2, h.sw, Nat.le_trans hs.length_le h.ls, h.boxes, h.names, h.vals, h.inbox, ⟨h.seated.homes, h.seated.hup, fun x hx => ⟨(h.seated.seats x (hs.subset hx)).s1, (h.seated.seats x (hs.subset hx)).s2, (h.seated.seats x (hs.subset hx)).t1, (h.seated.seats x (hs.subset hx)).home⟩, h.seated.sup.sublist hs, h.seated.twin.sublist hs⟩⟩
theorem RightP.nv1 {m : Ml} (h : RightP m) : 1 ≤ m.nv := by
  obtain ⟨b, hb, -⟩ := h.inbox
  have h1 := (h.boxes b hb).v1
  have h2 := (h.boxes b hb).v2
  omega
theorem create_right {m : Ml} {q : Rq} {o : Oc} (h : RightP m) : RightP (createM m q o).2.1 := by
  unfold createM
  split
  · exact h
  rename_i h1
  have hok : boxOk q.box.data.toList = true := by cases hh : boxOk q.box.data.toList with | false => exact absurd (.inl hh) h1 | true => rfl
  have hnm : boxL q.box.data.toList = q.box.data.toList := Classical.byContradiction fun hh => h1 (.inr hh)
  split
  · exact h
  rename_i hf
  split
  · exact h
  split
  · exact h
  rename_i h2 h3
  have hno : ∀ x ∈ m.boxes, x.name.data.toList ≠ q.box.data.toList := fun x hx => name_ne (List.findIdx?_eq_none_iff.1 hf x hx)
  have hnv := h.nv1
  exact {
    lb := by show (insS bxltB _ m.boxes).length ≤ 8; rw [insS_len]; omega
    nv := by show m.nv + 1 ≤ _; omega
    ns1 := h.ns1
    ns2 := h.ns2
    sw := h.sw
    ls := h.ls
    boxes := fun x hx => by
      show BoxP x (m.nv + 1)
      rcases (mem_insS bxltB _ x m.boxes).1 hx with rfl | hx
      · exact ⟨hok, hnm, hnv, Nat.lt_succ_self _, Nat.le_refl 1, (by show (1 : Nat) ≤ 4294967296; omega), Nat.le_refl 1, (by show (1 : Nat) ≤ 9223372036854775807; omega), Nat.zero_le _, (fun x hx => by cases hx), List.Pairwise.nil⟩
      · have hb := h.boxes x hx
        exact ⟨hb.ok, hb.nm, hb.v1, Nat.lt_succ_of_lt hb.v2, hb.n1, hb.n2, hb.h1, hb.h2, hb.len, hb.lets, hb.up⟩
    names := insS_ord bxltB _ (fun x y z a b => bytes_sto.trans _ _ _ a b) m.boxes h.names (fun x hx hl => by
      rcases bytes_tri x.name.data.toList q.box.data.toList with h3 | h3 | h3
      · exact h3
      · exact absurd h3 (hno x hx)
      · have hl' : bytesBefore q.box.data.toList x.name.data.toList = false := hl
        rw [h3] at hl'; cases hl')
    vals := insS_pw bxltB _ m.boxes h.vals (fun x hx => ⟨fun e => by have := (h.boxes x hx).v2; dsimp only at e; omega, fun e => by have := (h.boxes x hx).v2; dsimp only at e; omega⟩)
    inbox := by
      obtain ⟨b, hb, e⟩ := h.inbox
      exact ⟨b, (mem_insS bxltB _ b m.boxes).2 (.inr hb), e⟩
    seated := h.seated.box rfl rfl rfl }
theorem remove_right {m : Ml} {q : Rq} {o : Oc} (h : RightP m) : RightP (removeM m q o).2.1 := by
  unfold removeM
  split
  · exact h
  rename_i hi
  split
  · exact h
  rename_i i hf
  obtain ⟨hl, he, -⟩ := List.findIdx?_eq_some_iff_getElem.1 hf
  have hne : m.boxes[i].name.data.toList ≠ inboxL := by
    rw [name_eq he]
    intro e
    rw [ByteArray.toList_eq, e] at hi
    exact hi (by simp)
  have hs : (m.boxes.take i ++ m.boxes.drop (i + 1)).Sublist m.boxes := by
    rw [← List.eraseIdx_eq_take_drop_succ]; exact List.eraseIdx_sublist ..
  exact {
    lb := Nat.le_trans hs.length_le h.lb
    nv := h.nv
    ns1 := h.ns1
    ns2 := h.ns2
    sw := h.sw
    ls := h.ls
    boxes := fun x hx => h.boxes x (hs.subset hx)
    names := h.names.sublist hs
    vals := h.vals.sublist hs
    inbox := by
      obtain ⟨b, hb, e⟩ := h.inbox
      obtain ⟨j, hj, rfl⟩ := List.mem_iff_getElem.1 hb
      refine ⟨m.boxes[j], ?_, e⟩
      show m.boxes[j] ∈ m.boxes.take i ++ m.boxes.drop (i + 1)
      rw [← List.eraseIdx_eq_take_drop_succ, List.mem_eraseIdx_iff_getElem]
      exact ⟨j, hj, fun hji => by subst hji; exact hne e, rfl⟩
    seated := h.seated.box rfl rfl rfl }
theorem append_right {m : Ml} {q : Rq} {o : Oc} (h : RightP m) : RightP (appendM m q o).2.1 := by
  unfold appendM
  split
  · exact h
  rename_i i hf
  obtain ⟨hl, -, -⟩ := List.findIdx?_eq_some_iff_getElem.1 hf
  rw [List.getElem?_eq_getElem hl]
  dsimp only
  have hb := h.boxes _ (List.getElem_mem hl)
  generalize hB : m.boxes[i] = b at *
  split
  · exact h
  rename_i h1
  split
  · exact h
  split
  · exact h
  split
  · exact h
  rename_i h2 h3 h4
  have g1 : rightB q.flags = true := by cases hh : rightB q.flags with | false => exact absurd (.inl hh) h1 | true => rfl
  have g2 : q.hash.size = 32 := Classical.byContradiction fun hh => h1 (.inr (.inl hh))
  have g3 : q.size ≤ 4096 := Nat.le_of_not_lt fun hh => h1 (.inr (.inr hh))
  have g4 : ¬ 4294967295 < b.next := fun hh => h4 (.inl hh)
  have g5 : ¬ 9223372036854775807 ≤ b.high := fun hh => h4 (.inr hh)
  have hn1 := hb.n1
  have hh1 := hb.h1
  refine h.setM hl _ (by rw [hB]; rfl) (by rw [hB]; rfl) ⟨hb.ok, hb.nm, hb.v1, hb.v2, Nat.le_succ_of_le hb.n1, by show b.next + 1 ≤ _; omega, Nat.le_succ_of_le hb.h1, by show b.high + 1 ≤ _; omega, ?_, fun x hx => ?_, ?_⟩
  · show (b.letters ++ [newLt b q]).length ≤ 32
    rw [List.length_append, List.length_singleton]; omega
  · rcases List.mem_append.1 hx with hx | hx
    · exact (hb.lets x hx).more (Nat.le_succ _) (Nat.le_succ _)
    · rw [List.mem_singleton.1 hx]
      exact ⟨hn1, Nat.lt_succ_self _, g1, Nat.succ_pos _, Nat.le_refl _, g2, g3⟩
  · show (b.letters ++ [newLt b q]).Pairwise _
    refine List.pairwise_append.2 ⟨hb.up, by simp, fun x hx y hy => ?_⟩
    rw [List.mem_singleton.1 hy]
    exact (hb.lets x hx).u2
theorem named_lt {m : Ml} {q : Rq} {i : Nat} (h : namedI m q = some i) : ∃ hi : i < m.boxes.length, m.boxes[i].name.data.toList = q.box.data.toList := by
  unfold namedI at h
  split at h
  · cases h
  · rename_i j hf
    obtain ⟨hl, he, -⟩ := List.findIdx?_eq_some_iff_getElem.1 hf
    split at h
    · have := Option.some.inj h
      subst this
      exact ⟨hl, name_eq he⟩
    · cases h
theorem chSet_right {l by_ : List (List UInt8)} {how : Int} (h1 : rightB l = true) (h2 : rightB by_ = true) (h3 : 0 ≤ how) (h4 : how ≤ 2) (h5 : chCode l how by_ = 0) : rightB (chSet l how by_) = true := by
  have hok := ch_okk h1 h2 h3 (by omega : how < 3)
  unfold chCode at h5
  rw [hok, if_pos rfl] at h5
  have h6 : ¬ 16 < (fset (chIn l how by_)).length := fun hh => by rw [if_pos hh] at h5; cases h5
  unfold chSet
  rw [hok, if_pos rfl, if_neg h6]
  have g1 := (rightB_iff l).1 h1
  have g2 := (rightB_iff by_).1 h2
  refine (rightB_iff _).2 ⟨fun f hf => ?_, by omega, sorted_setS flt_sto _⟩
  have hf2 := (mem_setS flt_sto _ f).1 hf
  unfold chIn at hf2
  rcases List.mem_append.1 hf2 with hf2 | hf2
  · split at hf2
    · cases hf2
    · split at hf2
      · exact g1.1 f hf2
      · exact g1.1 f (List.mem_filter.1 hf2).1
  · split at hf2
    · cases hf2
    · exact g2.1 f hf2
theorem store_right {m : Ml} {q : Rq} {o : Oc} (h : RightP m) : RightP (storeM m q o).2.1 := by
  unfold storeM
  split
  · exact h
  rename_i i hf
  obtain ⟨hl, -⟩ := named_lt hf
  rw [List.getElem?_eq_getElem hl]
  dsimp only
  have hb := h.boxes _ (List.getElem_mem hl)
  generalize hB : m.boxes[i] = b at *
  split
  · exact h
  rename_i h1
  split
  · exact h
  rename_i h2
  split
  · exact h
  split
  · exact h
  rename_i h3 h4
  have g1 : rightB q.flags = true := by cases hh : rightB q.flags with | false => exact absurd (.inl hh) h1 | true => rfl
  have g2 : 0 ≤ q.how := by have : ¬ q.how < 0 := fun hh => h1 (.inr (.inl hh)); omega
  have g3 : q.how ≤ 2 := by have : ¬ 2 < q.how := fun hh => h1 (.inr (.inr hh)); omega
  have hid : ∀ x, (stNew b.letters q b.high x).uid = x.uid := fun x => by unfold stNew; split <;> rfl
  refine h.setM hl _ (by rw [hB]) (by rw [hB]) ⟨hb.ok, hb.nm, hb.v1, hb.v2, hb.n1, hb.n2, Nat.le_succ_of_le hb.h1, by show b.high + 1 ≤ _; omega, ?_, fun x hx => ?_, ?_⟩
  · show (b.letters.map _).length ≤ 32
    rw [List.length_map]; exact hb.len
  · obtain ⟨z, hz, rfl⟩ := List.mem_map.1 hx
    have hp := hb.lets z hz
    unfold stNew
    split
    · rename_i ht
      refine ⟨hp.u1, hp.u2, ?_, Nat.succ_pos _, Nat.le_refl _, hp.hs, hp.sz⟩
      refine chSet_right hp.fl g1 g2 g3 ?_
      unfold stTurns at ht
      rw [Bool.and_eq_true] at ht
      have hnf : stFails b.letters q z = false := by
        cases hh : stFails b.letters q z with
        | false => rfl
        | true => exact absurd (List.any_eq_true.2 ⟨z, hz, hh⟩) h2
      unfold stFails at hnf
      rw [ht.1] at hnf
      simpa using hnf
    · exact hp.more (Nat.le_refl _) (Nat.le_succ _)
  · show (b.letters.map _).Pairwise _
    rw [List.pairwise_map]
    exact hb.up.imp (fun {x y} hxy => by rw [hid, hid]; exact hxy)
theorem expunge_right {m : Ml} {q : Rq} {o : Oc} (h : RightP m) : RightP (expungeM m q o).2.1 := by
  unfold expungeM
  split
  · exact h
  rename_i i hf
  obtain ⟨hl, -⟩ := named_lt hf
  rw [List.getElem?_eq_getElem hl]
  dsimp only
  have hb := h.boxes _ (List.getElem_mem hl)
  generalize hB : m.boxes[i] = b at *
  split
  · exact h
  split
  · exact h
  rename_i h3 h4
  have hs : (b.letters.filter (fun x => !goesB b.letters q x)).Sublist b.letters := List.filter_sublist
  exact h.setM hl _ (by rw [hB]) (by rw [hB]) ⟨hb.ok, hb.nm, hb.v1, hb.v2, hb.n1, hb.n2, Nat.le_succ_of_le hb.h1, by show b.high + 1 ≤ _; omega, Nat.le_trans hs.length_le hb.len, fun x hx => (hb.lets x (hs.subset hx)).more (Nat.le_refl _) (Nat.le_succ _), hb.up.sublist hs⟩
theorem copyL_mem (hh : Nat) : ∀ (l : List Lt) (n : Nat) (x : Lt), x ∈ copyL hh n l → ∃ z ∈ l, x = { z with uid := x.uid, mod := hh } ∧ n ≤ x.uid ∧ x.uid < n + l.length
  | [], n, x, hx => by cases hx
  | z :: r, n, x, hx => by
    rcases List.mem_cons.1 hx with rfl | hx
    · exact ⟨z, by simp, rfl, Nat.le_refl _, by simp⟩
    · obtain ⟨y, hy, e, h1, h2⟩ := copyL_mem hh r (n + 1) x hx
      exact ⟨y, List.mem_cons_of_mem _ hy, e, by omega, by simp only [List.length_cons]; omega⟩
theorem copyL_up (hh : Nat) : ∀ (l : List Lt) (n : Nat), (copyL hh n l).Pairwise (fun x y => x.uid < y.uid)
  | [], n => List.Pairwise.nil
  | z :: r, n => List.pairwise_cons.2 ⟨fun y hy => by obtain ⟨_, _, _, h1, _⟩ := copyL_mem hh r (n + 1) y hy; exact h1, copyL_up hh r (n + 1)⟩
theorem copy_right {m : Ml} {q : Rq} {o : Oc} (h : RightP m) : RightP (copyM m q o).2.1 := by
  unfold copyM
  split
  · exact h
  rename_i i hf
  obtain ⟨hl, -⟩ := named_lt hf
  rw [List.getElem?_eq_getElem hl]
  dsimp only
  have hb := h.boxes _ (List.getElem_mem hl)
  generalize m.boxes[i] = b at hb
  split
  · exact h
  rename_i t ht
  obtain ⟨htl, -, -⟩ := List.findIdx?_eq_some_iff_getElem.1 ht
  rw [List.getElem?_eq_getElem htl]
  dsimp only
  have hd := h.boxes _ (List.getElem_mem htl)
  generalize hD : m.boxes[t] = d at *
  generalize hL : b.letters.filter (meantB b.letters q) = L
  have hLs : ∀ x ∈ L, LetP x b := fun x hx => hb.lets x (by rw [← hL] at hx; exact (List.mem_filter.1 hx).1)
  split
  · exact h
  split
  · exact h
  split
  · exact h
  rename_i h1 h2 h3
  have g4 : ¬ 4294967296 < d.next + L.length := fun hh => h3 (.inl hh)
  have g5 : ¬ 9223372036854775807 ≤ d.high := fun hh => h3 (.inr hh)
  have hn1 := hd.n1
  refine h.setM htl _ (by rw [hD]; rfl) (by rw [hD]; rfl) ⟨hd.ok, hd.nm, hd.v1, hd.v2, by show 1 ≤ d.next + _; omega, by show d.next + L.length ≤ _; omega, Nat.le_succ_of_le hd.h1, by show d.high + 1 ≤ _; omega, ?_, fun x hx => ?_, ?_⟩
  · show (d.letters ++ copyL (d.high + 1) d.next L).length ≤ 32
    rw [List.length_append, copyL_len]; omega
  · rcases List.mem_append.1 hx with hx | hx
    · exact (hd.lets x hx).more (Nat.le_add_right _ _) (Nat.le_succ _)
    · obtain ⟨z, hz, e, h6, h7⟩ := copyL_mem _ _ _ _ hx
      have hp := hLs z hz
      have e1 : x.flags = z.flags := by have h := congrArg Lt.flags e; exact h
      have e2 : x.hash = z.hash := by have h := congrArg Lt.hash e; exact h
      have e3 : x.size = z.size := by have h := congrArg Lt.size e; exact h
      have e4 : x.mod = d.high + 1 := by have h := congrArg Lt.mod e; exact h
      exact ⟨by omega, h7, by rw [e1]; exact hp.fl, by omega, by rw [e4]; exact Nat.le_refl _, by rw [e2]; exact hp.hs, by rw [e3]; exact hp.sz⟩
  · show (d.letters ++ copyL (d.high + 1) d.next L).Pairwise _
    refine List.pairwise_append.2 ⟨hd.up, copyL_up _ _ _, fun x hx y hy => ?_⟩
    obtain ⟨_, _, _, h6, _⟩ := copyL_mem _ _ _ _ hy
    have := (hd.lets x hx).u2
    omega
/-- one home a node -/
theorem home_uniq {l : List Hm} (h : l.Pairwise (fun x y => x.node < y.node)) {a b : Hm} (ha : a ∈ l) (hb : b ∈ l) (e : a.node = b.node) : a = b := by
  obtain ⟨i, hi, rfl⟩ := List.mem_iff_getElem.1 ha
  obtain ⟨j, hj, rfl⟩ := List.mem_iff_getElem.1 hb
  rcases Nat.lt_trichotomy i j with h3 | h3 | h3
  · have := List.pairwise_iff_getElem.1 h i j hi hj h3; omega
  · subst h3; rfl
  · have := List.pairwise_iff_getElem.1 h j i hj hi h3; omega
theorem settle_homes {m : Ml} (h : SeatsP m) (q : Rq) (H : Hm) (hn : H.node = q.node) (l : List Hm) (hl : (settleM { m with homes := m.homes } (idxI (fun x => x.node == q.node) m.homes) H).homes = l) (hH : HomeP H) :
    (∀ x ∈ l, HomeP x) ∧ l.Pairwise (fun x y => x.node < y.node) ∧ H ∈ l ∧ ∀ x ∈ m.homes, x.node ≠ q.node → x ∈ l := by
  subst hl
  unfold settleM idxI
  cases hf : m.homes.findIdx? (fun x => x.node == q.node) with
  | none =>
    have hno : ∀ x ∈ m.homes, x.node ≠ q.node := fun x hx e => by
      have := List.findIdx?_eq_none_iff.1 hf x hx
      rw [e] at this; simp at this
    rw [if_neg (by show ¬ (0 : Int) ≤ -1; omega)]
    dsimp only
    refine ⟨fun x hx => ?_, ?_, (mem_insS hltB H H m.homes).2 (.inl rfl), fun x hx _ => (mem_insS hltB H x m.homes).2 (.inr hx)⟩
    · rcases (mem_insS hltB H x m.homes).1 hx with rfl | hx
      · exact hH
      · exact h.homes x hx
    · refine (insS_ord hltB H (fun x y z a b => ?_) m.homes (h.hup.imp (fun {x y} hxy => decide_eq_true hxy)) (fun x hx hlt => ?_)).imp (fun {x y} hxy => of_decide_eq_true hxy)
      · have h1 := of_decide_eq_true a
        have h2 := of_decide_eq_true b
        exact decide_eq_true (by omega)
      · have h1 := of_decide_eq_false hlt
        have h2 := hno x hx
        exact decide_eq_true (by omega)
  | some i =>
    obtain ⟨hl, he, -⟩ := List.findIdx?_eq_some_iff_getElem.1 hf
    have he' : m.homes[i].node = q.node := eq_of_beq he
    rw [if_pos (by show (0 : Int) ≤ (i : Int); omega)]
    dsimp only
    rw [show (optI (some i)).toNat = i from rfl]
    refine ⟨fun x hx => ?_, ?_, self_set H hl, fun x hx hne => ?_⟩
    · rcases mem_set_out hx with hx | rfl
      · exact h.homes x hx
      · exact hH
    · exact pw_set h.hup hl H (fun x hx => by rw [hn, ← he']; exact hx) (fun x hx => by rw [hn, ← he']; exact hx)
    · rcases mem_set_in H hl hx with rfl | hx
      · exact absurd he' hne
      · exact hx
theorem home_found {m : Ml} (h : SeatsP m) {x : Hm} (hx : x ∈ m.homes) : homeOf m x.node = x := by
  unfold homeOf
  cases hf : m.homes.find? (fun y => y.node == x.node) with
  | none => exact absurd (List.find?_eq_none.1 hf x hx) (by simp)
  | some y =>
    have h1 := List.find?_some hf
    exact home_uniq h.hup (List.mem_of_find?_eq_some hf) hx (eq_of_beq h1)
theorem open_right {m : Ml} {q : Rq} {o : Oc} (h : RightP m) : RightP (openM m q o).2.1 := by
  unfold openM
  split
  · exact h
  rename_i h1
  split
  · exact h
  rename_i h2
  split
  · split
    · exact h
    · exact h
  rename_i h3
  split
  · exact h
  rename_i h4
  have a1 : 1 ≤ q.node := by have : ¬ q.node < 1 := fun hh => h1 (.inl hh); omega
  have a2 : q.node ≤ 5 := by have : ¬ 5 < q.node := fun hh => h1 (.inr (.inl hh)); omega
  have a3 : q.life ≠ 0 := fun hh => h1 (.inr (.inr (.inl hh)))
  have a4 : q.try_ ≠ 0 := fun hh => h1 (.inr (.inr (.inr hh)))
  have a5 : (seatsO m q).length < 16 := Nat.lt_of_not_le fun hh => h4 (.inl hh)
  have a6 : m.ns < 4611686018427387904 := Nat.lt_of_not_le fun hh => h4 (.inr hh)
  have hns := h.ns1
  have hH : HomeP ⟨q.node, q.life, q.try_⟩ := ⟨a1, a2, a3, a4⟩
  have hsub : (seatsO m q).Sublist m.seats := by
    unfold seatsO
    split
    · exact List.filter_sublist
    · exact List.Sublist.refl _
  obtain ⟨b1, b2, b3, b4⟩ := settle_homes h.seated q ⟨q.node, q.life, q.try_⟩ rfl _ rfl hH
  -- a seat that stays has a home
  have hkeep : ∀ x ∈ seatsO m q, ∀ g ∈ m.homes, g.node = x.node → g.life = x.life → x.try_ ≤ g.try_ → g.node = q.node → g.life = q.life ∧ g.try_ < q.try_ := by
    intro x hx g hg e1 e2 e3 e4
    have hg' : homeOf m q.node = g := by rw [← e4]; exact home_found h.seated hg
    rw [hg'] at h2 h3
    have hnl : ¬ g.life < q.life := fun hh => by
      unfold seatsO at hx
      rw [hg', if_pos hh] at hx
      have := (List.mem_filter.1 hx).2
      rw [← e1, e4] at this
      simp at this
    have he : g.life = q.life := by omega
    exact ⟨he, Nat.lt_of_not_le fun hh => h3 ⟨he, hh⟩⟩
  have hboxes : (settleM { m with seats := seatsO m q ++ [⟨m.ns, 0, q.node, q.life, q.try_⟩], ns := m.ns + 1 } (idxI (fun x => x.node == q.node) m.homes) ⟨q.node, q.life, q.try_⟩) =
      { m with seats := seatsO m q ++ [⟨m.ns, 0, q.node, q.life, q.try_⟩], ns := m.ns + 1, homes := (settleM { m with homes := m.homes } (idxI (fun x => x.node == q.node) m.homes) ⟨q.node, q.life, q.try_⟩).homes } := by
    unfold settleM
    split <;> rfl
  dsimp only
  rw [hboxes]
  generalize (settleM { m with homes := m.homes } (idxI (fun x => x.node == q.node) m.homes) ⟨q.node, q.life, q.try_⟩).homes = L at b1 b2 b3 b4
  exact {
    lb := h.lb
    nv := h.nv
    ns1 := by show 1 ≤ m.ns + 1; omega
    ns2 := by show m.ns + 1 ≤ _; omega
    sw := h.sw
    ls := by show (seatsO m q ++ [_]).length ≤ 16; rw [List.length_append, List.length_singleton]; omega
    boxes := h.boxes
    names := h.names
    vals := h.vals
    inbox := h.inbox
    seated := {
      homes := b1
      hup := b2
      seats := fun x hx => by
        rcases List.mem_append.1 hx with hx | hx
        · have hp := h.seated.seats x (hsub.subset hx)
          obtain ⟨g, hg, e1, e2, e3⟩ := hp.home
          refine ⟨hp.s1, by have := hp.s2; show x.session < m.ns + 1; omega, hp.t1, ?_⟩
          by_cases hq : g.node = q.node
          · have hk := hkeep x hx g hg e1 e2 e3 hq
            exact ⟨_, b3, by show q.node = x.node; omega, by show q.life = x.life; omega, by show x.try_ ≤ q.try_; omega⟩
          · exact ⟨g, b4 g hg hq, e1, e2, e3⟩
        · rw [List.mem_singleton.1 hx]
          exact ⟨hns, by show m.ns < m.ns + 1; omega, by show 1 ≤ q.try_; omega, _, b3, rfl, rfl, Nat.le_refl _⟩
      sup := List.pairwise_append.2 ⟨h.seated.sup.sublist hsub, by simp, fun x hx y hy => by
        rw [List.mem_singleton.1 hy]
        exact (h.seated.seats x (hsub.subset hx)).s2⟩
      twin := List.pairwise_append.2 ⟨h.seated.twin.sublist hsub, by simp, fun x hx y hy => by
        rw [List.mem_singleton.1 hy]
        rintro ⟨e, e'⟩
        obtain ⟨g, hg, e1, e2, e3⟩ := (h.seated.seats x (hsub.subset hx)).home
        have e0 : x.node = q.node := e
        have e0' : x.try_ = q.try_ := e'
        have hk := hkeep x hx g hg e1 e2 e3 (by omega)
        omega⟩ } }
theorem put_right {m : Ml} (h : RightP m) (i n : Nat) : RightP (seatPut m i n) := by
  have hg : ∀ (j : Nat) (hj : j < (m.seats.modify i (fun x => { x with last := n })).length) (hj' : j < m.seats.length), (m.seats.modify i (fun x => { x with last := n }))[j] = if i = j then { m.seats[j] with last := n } else m.seats[j] := fun j hj hj' => by
    rw [List.getElem_modify]
  have hk : ∀ (j : Nat) (hj : j < (m.seats.modify i (fun x => { x with last := n })).length) (hj' : j < m.seats.length), (m.seats.modify i (fun x => { x with last := n }))[j].session = m.seats[j].session ∧ (m.seats.modify i (fun x => { x with last := n }))[j].node = m.seats[j].node ∧ (m.seats.modify i (fun x => { x with last := n }))[j].life = m.seats[j].life ∧ (m.seats.modify i (fun x => { x with last := n }))[j].try_ = m.seats[j].try_ := fun j hj hj' => by
    rw [hg j hj hj']
    split <;> exact ⟨rfl, rfl, rfl, rfl⟩
  have hlen : (m.seats.modify i (fun x => { x with last := n })).length = m.seats.length := List.length_modify ..
  refine ⟨h.lb, h.nv, h.ns1, h.ns2, h.sw, by show (m.seats.modify i _).length ≤ 16; rw [hlen]; exact h.ls, h.boxes, h.names, h.vals, h.inbox, ⟨h.seated.homes, h.seated.hup, fun x hx => ?_, ?_, ?_⟩⟩
  · obtain ⟨j, hj, rfl⟩ := List.mem_iff_getElem.1 hx
    have hj2 : j < (m.seats.modify i (fun x => { x with last := n })).length := hj
    have hj' : j < m.seats.length := by rw [hlen] at hj2; exact hj2
    have hp := h.seated.seats _ (List.getElem_mem hj')
    obtain ⟨k1, k2, k3, k4⟩ := hk j hj2 hj'
    have hp2 := hp.home
    refine ⟨?_, ?_, ?_, ?_⟩
    · show 1 ≤ (m.seats.modify i _)[j].session; rw [k1]; exact hp.s1
    · show (m.seats.modify i _)[j].session < m.ns; rw [k1]; exact hp.s2
    · show 1 ≤ (m.seats.modify i _)[j].try_; rw [k4]; exact hp.t1
    · obtain ⟨g, hg, e1, e2, e3⟩ := hp2
      exact ⟨g, hg, e1.trans k2.symm, e2.trans k3.symm, by show (m.seats.modify i _)[j].try_ ≤ g.try_; rw [k4]; exact e3⟩
  · show (m.seats.modify i _).Pairwise _
    rw [List.pairwise_iff_getElem]
    intro a b ha hb hab
    rw [(hk a ha (by rw [hlen] at ha; exact ha)).1, (hk b hb (by rw [hlen] at hb; exact hb)).1]
    exact List.pairwise_iff_getElem.1 h.seated.sup a b _ _ hab
  · show (m.seats.modify i _).Pairwise _
    rw [List.pairwise_iff_getElem]
    intro a b ha hb hab
    have ka := hk a ha (by rw [hlen] at ha; exact ha)
    have kb := hk b hb (by rw [hlen] at hb; exact hb)
    rw [ka.2.1, kb.2.1, ka.2.2.2, kb.2.2.2]
    exact List.pairwise_iff_getElem.1 h.seated.twin a b _ _ hab
theorem fin_fst (r : Int × Ml × Oc) : (finM r).1 = r.2.1 := by unfold finM; split <;> rfl
theorem does_right {m : Ml} {q : Rq} (h : RightP m) : RightP (doesM m q).2.1 := by
  unfold doesM
  split
  · exact open_right h
  split
  · exact end_right h
  split
  · exact look_right h
  split
  · exact create_right h
  split
  · exact remove_right h
  split
  · exact append_right h
  split
  · exact store_right h
  split
  · exact expunge_right h
  split
  · exact copy_right h
  · exact sweep_right h
theorem apply_right {m : Ml} (q : Rq) (h : RightP m) : RightP (applyM m q).1 := by
  unfold applyM
  split
  · exact h
  split
  · rw [fin_fst]; exact does_right h
  split
  · exact h
  · split
    · exact h
    · rw [fin_fst]; exact does_right (put_right h _ _)
end Go.Proofs.YtpkaoiadjffjiaaGreat
namespace Go.Proofs.YtpkaoiadjffjiaaGreat
set_option linter.unusedSimpArgs false
open Go.RowKit
attribute [local go_sem ↓] Go.wp_at_zero Go.wp_at_succ

theorem MlIn.stay {W : World} {v : Value} {m : Ml} (h : MlIn W v m) : Stay (fun _ => True) W fun x => MlIn x v m := by
  intro w' hw
  have h2 : MlIn { W with heap := w'.heap } v m := h.below ⟨rfl, rfl, rfl, by
    rcases Nat.eq_zero_or_pos W.heap.size with h0 | h0
    · rw [h0]; exact Nat.zero_le _
    · have e := Array.getElem?_eq_getElem (show W.heap.size - 1 < W.heap.size by omega)
      have := (Array.getElem?_eq_some_iff.1 ((hw (W.heap.size - 1) trivial (by omega)).trans e)).1
      show W.heap.size ≤ w'.heap.size
      omega, fun k hk => hw k trivial hk⟩
  exact h2
theorem new_block {w : World} {B : Nat} (h : w.heap[B]? = some (.cells (bxT.enc newBx).toArray 40 (0, 0))) : MlIn w (mlVal (.slice (some ⟨B, 0, none⟩) 1 1) 2 (.slice none 0 0) (.slice none 0 0) 1 0) newM := by
  have hl : B < w.heap.size := (Array.getElem?_eq_some_iff.1 h).1
  have e : ({ w with heap := w.heap.extract 0 B } : World).heap.size = B := by simp; omega
  have h1 := new_in { w with heap := w.heap.extract 0 B }
  rw [e] at h1
  have e2 : (({ w with heap := w.heap.extract 0 B } : World).alloc (.cells (bxT.enc newBx).toArray 40)).heap.size = B + 1 := by simp; omega
  refine h1.below ⟨rfl, rfl, rfl, by rw [e2]; omega, fun k hk => ?_⟩
  rw [e2] at hk
  rcases Nat.lt_or_ge k B with hk2 | hk2
  · rw [((Below.refl B ({ w with heap := w.heap.extract 0 B } : World)).alloc (by rw [e]; omega) _).block k hk2]
    show w.heap[k]? = (w.heap.extract 0 B)[k]?
    rw [Array.getElem?_extract]
    simp only [Nat.zero_add]
    rw [if_pos (by omega)]
  · obtain rfl : k = B := by omega
    rw [h]
    have := heap_alloc_new ({ w with heap := w.heap.extract 0 k } : World) (.cells (bxT.enc newBx).toArray 40)
    rw [e] at this
    exact this.symm
/-- a state in new memory -/
def MlNew (W : World) (m : Ml) (e : Ending) (w' : World) : Prop := ∃ v, e = .returned v ∧ Hid (Stay (fun k => W.heap.size ≤ k) w' fun x => MlIn x v m) ∧ Hid (Below W.heap.size W w')
set_option maxRecDepth 100000 in
set_option maxHeartbeats 4000000 in
theorem newS_any (W : World) : Calls Tryz.prog 11 #[] W (MlNew W newM) := by
  have hz := ((Zoo.nil W).newBox #[.slice (some ⟨W.heap.size + 1, 0, none⟩) 1 1, .int .u64 2, .slice none 0 0, .slice none 0 0, .int .u64 1, .int .u64 0] 27).newBox #[.string ⟨#[73, 78, 66, 79, 88]⟩, .int .u64 1, .int .u64 1, .int .u64 1, .slice none 0 0] 40
  obtain ⟨hb, -⟩ := hz.box 1 rfl
  obtain ⟨hb0, -⟩ := hz.box 0 rfl
  rw [show (W.alloc (.cells #[.slice (some ⟨W.heap.size + 1, 0, none⟩) 1 1, .int .u64 2, .slice none 0 0, .slice none 0 0, .int .u64 1, .int .u64 0] 27)).heap.size = W.heap.size + 1 from by simp] at hb0
  have h1 : Hid (Stay (fun k => W.heap.size ≤ k) _ fun x => MlIn x (mlVal (.slice (some ⟨W.heap.size + 1, 0, none⟩) 1 1) 2 (.slice none 0 0) (.slice none 0 0) 1 0) newM) := Lib.hid (fun w2 h2 => new_block ((h2 (W.heap.size + 1) (by omega) (Array.getElem?_eq_some_iff.1 hb0).1).trans hb0))
  have h2 := Lib.hid hz.bel
  replace hb := Lib.hid hb
  clear hz hb0
  go_enter Tryz.func11, Tryz.ntmps11
  go_wp2_with fail
  refine bodyPost_ret (results_cell_row rfl _ _ _ 27 _ (0, 0) _ rfl hb.out Tryz.underlying27 rfl rfl) rfl ?_
  exact ⟨_, rfl, h1, h2⟩
end Go.Proofs.YtpkaoiadjffjiaaGreat
namespace Go.Proofs.YtpkaoiadjffjiaaGreat
set_option linter.unusedSimpArgs false
open Go.RowKit
attribute [local go_sem ↓] Go.wp_at_zero Go.wp_at_succ

theorem MlIn.out_ {W : World} {v : Value} {m : Ml} (h : MlIn W v m) : ∃ ab cb nb ah ch as_ cs, v = .agg #[.slice ab nb cb, .int .u64 m.nv, .slice ah m.homes.length ch, .slice as_ m.seats.length cs, .int .u64 m.ns, .int .u64 m.sweeps] := by
  obtain ⟨vb, vh, vs, bs, rfl, -, hib, hih, his⟩ := h
  obtain ⟨ab, cb, rfl, -⟩ := hib.1
  obtain ⟨ah, ch, rfl, -⟩ := hih
  obtain ⟨as_, cs, rfl, -⟩ := his
  exact ⟨_, _, _, _, _, _, _, rfl⟩
end Go.Proofs.YtpkaoiadjffjiaaGreat
