/- An operation on a right state leaves a right state: plain. The document's answer which mailboxes may be: walked. (written by tools/gen_MmL.py) The document's Home: walked. -/
import Derived.Test.YtcnebfmlelcliaaGreatB15
import Derived.Test.YtcnebfmlelcliaaGreatB17
namespace Go.Proofs.YtcnebfmlelcliaaGreat
set_option linter.unusedSimpArgs false
open Go.RowKit

theorem pw_set {α : Type} {R : α → α → Prop} {l : List α} (h : l.Pairwise R) {i : Nat} (hi : i < l.length) (b : α) (h1 : ∀ x, R x l[i] → R x b) (h2 : ∀ x, R l[i] x → R b x) : (l.set i b).Pairwise R := by
  rw [List.pairwise_iff_getElem] at h ⊢
  intro j k hj hk hjk
  rw [List.length_set] at hj hk
  rw [List.getElem_set, List.getElem_set]
  by_cases e : i = j
  · subst e
    rw [if_pos rfl, if_neg (by omega)]
    exact h2 _ (h _ _ hj hk hjk)
  · rw [if_neg e]
    by_cases e2 : i = k
    · subst e2
      rw [if_pos rfl]
      exact h1 _ (h _ _ hj hk hjk)
    · rw [if_neg e2]
      exact h _ _ hj hk hjk
theorem mem_set_out {α : Type} {l : List α} {i : Nat} {b x : α} (hx : x ∈ l.set i b) : x ∈ l ∨ x = b := List.mem_or_eq_of_mem_set hx
theorem mem_set_in {α : Type} {l : List α} {i : Nat} (b : α) {x : α} (hi : i < l.length) (hx : x ∈ l) : x = l[i] ∨ x ∈ l.set i b := by
  obtain ⟨j, hj, rfl⟩ := List.mem_iff_getElem.1 hx
  by_cases e : i = j
  · subst e; exact .inl rfl
  · exact .inr (List.mem_iff_getElem.2 ⟨j, by rw [List.length_set]; exact hj, by rw [List.getElem_set, if_neg e]⟩)
theorem self_set {α : Type} {l : List α} {i : Nat} (b : α) (hi : i < l.length) : b ∈ l.set i b := List.mem_iff_getElem.2 ⟨i, by rw [List.length_set]; exact hi, by rw [List.getElem_set, if_pos rfl]⟩
theorem insS_pw {α : Type} (lt : α → α → Bool) (f : α) {R : α → α → Prop} : ∀ l : List α, l.Pairwise R → (∀ x ∈ l, R f x ∧ R x f) → (insS lt f l).Pairwise R
  | [], _, _ => by simp [insS]
  | a :: r, h, h2 => by
    have h' := List.pairwise_cons.1 h
    unfold insS
    split
    · exact List.pairwise_cons.2 ⟨fun y hy => (h2 y hy).1, h⟩
    · refine List.pairwise_cons.2 ⟨fun y hy => ?_, insS_pw lt f r h'.2 (fun x hx => h2 x (List.mem_cons_of_mem _ hx))⟩
      rcases (mem_insS lt f y r).1 hy with rfl | hy
      · exact (h2 a (by simp)).2
      · exact h'.1 y hy
/-- a row in order, one put among it -/
theorem insS_ord {α : Type} (lt : α → α → Bool) (f : α) (ht : ∀ x y z : α, lt x y = true → lt y z = true → lt x z = true) : ∀ l : List α, l.Pairwise (fun x y => lt x y = true) → (∀ x ∈ l, lt f x = false → lt x f = true) → (insS lt f l).Pairwise (fun x y => lt x y = true)
  | [], _, _ => by simp [insS]
  | a :: r, h, h2 => by
    have h' := List.pairwise_cons.1 h
    unfold insS
    split
    · rename_i hl
      refine List.pairwise_cons.2 ⟨fun y hy => ?_, h⟩
      rcases List.mem_cons.1 hy with rfl | hy
      · exact hl
      · exact ht _ _ _ hl (h'.1 y hy)
    · rename_i hl
      refine List.pairwise_cons.2 ⟨fun y hy => ?_, insS_ord lt f ht r h'.2 (fun x hx => h2 x (List.mem_cons_of_mem _ hx))⟩
      rcases (mem_insS lt f y r).1 hy with rfl | hy
      · exact h2 a (by simp) (by simpa using hl)
      · exact h'.1 y hy
theorem name_eq {x : Bx} {n : ByteArray} (h : (x.name.toList == n.toList) = true) : x.name.data.toList = n.data.toList := by
  rw [eq_str] at h
  exact eq_of_beq h
theorem name_ne {x : Bx} {n : ByteArray} (h : (x.name.toList == n.toList) = false) : x.name.data.toList ≠ n.data.toList := fun e => by
  rw [eq_str, e] at h
  simp at h
theorem SeatsP.box {m m' : Ml} (h : SeatsP m) (h1 : m'.homes = m.homes) (h2 : m'.seats = m.seats) (h3 : m'.ns = m.ns) : SeatsP m' := by
  refine ⟨?_, ?_, ?_, ?_, ?_⟩
  · rw [h1]; exact h.homes
  · rw [h1]; exact h.hup
  · rw [h2]; exact fun x hx => ⟨(h.seats x hx).s1, by rw [h3]; exact (h.seats x hx).s2, (h.seats x hx).t1, by rw [h1]; exact (h.seats x hx).home⟩
  · rw [h2]; exact h.sup
  · rw [h2]; exact h.twin
theorem RightP.setM {m : Ml} (h : RightP m) {i : Nat} (hi : i < m.boxes.length) (b : Bx) (hn : b.name = m.boxes[i].name) (hv : b.validity = m.boxes[i].validity) (hb : BoxP b m.nv) : RightP (setM m i b) where
  lb := by show (m.boxes.set i b).length ≤ 8; rw [List.length_set]; exact h.lb
  nv := h.nv
  ns1 := h.ns1
  ns2 := h.ns2
  sw := h.sw
  ls := h.ls
  boxes := fun x hx => by
    rcases mem_set_out hx with hx | rfl
    · exact h.boxes x hx
    · exact hb
  names := pw_set h.names hi b (fun x hx => by unfold bxltB at hx ⊢; rw [hn]; exact hx) (fun x hx => by unfold bxltB at hx ⊢; rw [hn]; exact hx)
  vals := pw_set h.vals hi b (fun x hx => by rw [hv]; exact hx) (fun x hx => by rw [hv]; exact hx)
  inbox := by
    obtain ⟨x, hx, e⟩ := h.inbox
    rcases mem_set_in b hi hx with rfl | hx
    · exact ⟨b, self_set b hi, by rw [hn]; exact e⟩
    · exact ⟨x, hx, e⟩
  seated := h.seated.box rfl rfl rfl
theorem LetP.more {x : Lt} {b b' : Bx} (h : LetP x b) (h1 : b.next ≤ b'.next) (h2 : b.high ≤ b'.high) : LetP x b' := ⟨h.u1, by have := h.u2; omega, h.fl, h.m1, by have := h.m2; omega, h.hs, h.sz⟩
theorem look_right {m : Ml} {q : Rq} {o : Oc} (h : RightP m) : RightP (lookM m q o).2.1 := h
theorem sweep_right {m : Ml} {q : Rq} {o : Oc} (h : RightP m) : RightP (sweepM m q o).2.1 := by
  unfold sweepM
  split
  · exact h
  · exact ⟨h.lb, h.nv, h.ns1, h.ns2, by have := h.sw; show m.sweeps + 1 ≤ _; omega, h.ls, h.boxes, h.names, h.vals, h.inbox, h.seated.box rfl rfl rfl⟩
theorem end_right {m : Ml} {q : Rq} {o : Oc} (h : RightP m) : RightP (endM m q o).2.1 := by
  have hs : (m.seats.filter (fun x => !(x.session == q.session))).Sublist m.seats := List.filter_sublist
  exact ⟨h.lb, h.nv, h.ns1, h.ns2, h.sw, Nat.le_trans hs.length_le h.ls, h.boxes, h.names, h.vals, h.inbox, ⟨h.seated.homes, h.seated.hup, fun x hx => ⟨(h.seated.seats x (hs.subset hx)).s1, (h.seated.seats x (hs.subset hx)).s2, (h.seated.seats x (hs.subset hx)).t1, (h.seated.seats x (hs.subset hx)).home⟩, h.seated.sup.sublist hs, h.seated.twin.sublist hs⟩⟩
theorem RightP.nv1 {m : Ml} (h : RightP m) : 1 ≤ m.nv := by
  obtain ⟨b, hb, -⟩ := h.inbox
  have h1 := (h.boxes b hb).v1
  have h2 := (h.boxes b hb).v2
  omega
theorem create_right {m : Ml} {q : Rq} {o : Oc} (h : RightP m) : RightP (createM m q o).2.1 := by
  unfold createM
  split
  · exact h
  rename_i h1
  have hok : boxOk q.box.data.toList = true := by cases hh : boxOk q.box.data.toList with | false => exact absurd (.inl hh) h1 | true => rfl
  have hnm : boxL q.box.data.toList = q.box.data.toList := Classical.byContradiction fun hh => h1 (.inr hh)
  split
  · exact h
  rename_i hf
  split
  · exact h
  split
  · exact h
  rename_i h2 h3
  have hno : ∀ x ∈ m.boxes, x.name.data.toList ≠ q.box.data.toList := fun x hx => name_ne (List.findIdx?_eq_none_iff.1 hf x hx)
  have hnv := h.nv1
  exact {
    lb := by show (insS bxltB _ m.boxes).length ≤ 8; rw [insS_len]; omega
    nv := by show m.nv + 1 ≤ _; omega
    ns1 := h.ns1
    ns2 := h.ns2
    sw := h.sw
    ls := h.ls
    boxes := fun x hx => by
      show BoxP x (m.nv + 1)
      rcases (mem_insS bxltB _ x m.boxes).1 hx with rfl | hx
      · exact ⟨hok, hnm, hnv, Nat.lt_succ_self _, Nat.le_refl 1, (by show (1 : Nat) ≤ 4294967296; omega), Nat.le_refl 1, (by show (1 : Nat) ≤ 9223372036854775807; omega), Nat.zero_le _, (fun x hx => by cases hx), List.Pairwise.nil⟩
      · have hb := h.boxes x hx
        exact ⟨hb.ok, hb.nm, hb.v1, Nat.lt_succ_of_lt hb.v2, hb.n1, hb.n2, hb.h1, hb.h2, hb.len, hb.lets, hb.up⟩
    names := insS_ord bxltB _ (fun x y z a b => bytes_sto.trans _ _ _ a b) m.boxes h.names (fun x hx hl => by
      rcases bytes_tri x.name.data.toList q.box.data.toList with h3 | h3 | h3
      · exact h3
      · exact absurd h3 (hno x hx)
      · have hl' : bytesBefore q.box.data.toList x.name.data.toList = false := hl
        rw [h3] at hl'; cases hl')
    vals := insS_pw bxltB _ m.boxes h.vals (fun x hx => ⟨fun e => by have := (h.boxes x hx).v2; dsimp only at e; omega, fun e => by have := (h.boxes x hx).v2; dsimp only at e; omega⟩)
    inbox := by
      obtain ⟨b, hb, e⟩ := h.inbox
      exact ⟨b, (mem_insS bxltB _ b m.boxes).2 (.inr hb), e⟩
    seated := h.seated.box rfl rfl rfl }
theorem remove_right {m : Ml} {q : Rq} {o : Oc} (h : RightP m) : RightP (removeM m q o).2.1 := by
  unfold removeM
  split
  · exact h
  rename_i hi
  split
  · exact h
  rename_i i hf
  obtain ⟨hl, he, -⟩ := List.findIdx?_eq_some_iff_getElem.1 hf
  have hne : m.boxes[i].name.data.toList ≠ inboxL := by
    rw [name_eq he]
    intro e
    rw [ByteArray.toList_eq, e] at hi
    exact hi (by simp)
  have hs : (m.boxes.take i ++ m.boxes.drop (i + 1)).Sublist m.boxes := by
    rw [← List.eraseIdx_eq_take_drop_succ]; exact List.eraseIdx_sublist ..
  exact {
    lb := Nat.le_trans hs.length_le h.lb
    nv := h.nv
    ns1 := h.ns1
    ns2 := h.ns2
    sw := h.sw
    ls := h.ls
    boxes := fun x hx => h.boxes x (hs.subset hx)
    names := h.names.sublist hs
    vals := h.vals.sublist hs
    inbox := by
      obtain ⟨b, hb, e⟩ := h.inbox
      obtain ⟨j, hj, rfl⟩ := List.mem_iff_getElem.1 hb
      refine ⟨m.boxes[j], ?_, e⟩
      show m.boxes[j] ∈ m.boxes.take i ++ m.boxes.drop (i + 1)
      rw [← List.eraseIdx_eq_take_drop_succ, List.mem_eraseIdx_iff_getElem]
      exact ⟨j, hj, fun hji => by subst hji; exact hne e, rfl⟩
    seated := h.seated.box rfl rfl rfl }
theorem append_right {m : Ml} {q : Rq} {o : Oc} (h : RightP m) : RightP (appendM m q o).2.1 := by
  unfold appendM
  split
  · exact h
  rename_i i hf
  obtain ⟨hl, -, -⟩ := List.findIdx?_eq_some_iff_getElem.1 hf
  rw [List.getElem?_eq_getElem hl]
  dsimp only
  have hb := h.boxes _ (List.getElem_mem hl)
  generalize hB : m.boxes[i] = b at *
  split
  · exact h
  rename_i h1
  split
  · exact h
  split
  · exact h
  split
  · exact h
  rename_i h2 h3 h4
  have g1 : rightB q.flags = true := by cases hh : rightB q.flags with | false => exact absurd (.inl hh) h1 | true => rfl
  have g2 : q.hash.size = 32 := Classical.byContradiction fun hh => h1 (.inr (.inl hh))
  have g3 : q.size ≤ 4096 := Nat.le_of_not_lt fun hh => h1 (.inr (.inr hh))
  have g4 : ¬ 4294967295 < b.next := fun hh => h4 (.inl hh)
  have g5 : ¬ 9223372036854775807 ≤ b.high := fun hh => h4 (.inr hh)
  have hn1 := hb.n1
  have hh1 := hb.h1
  refine h.setM hl _ (by rw [hB]; rfl) (by rw [hB]; rfl) ⟨hb.ok, hb.nm, hb.v1, hb.v2, Nat.le_succ_of_le hb.n1, by show b.next + 1 ≤ _; omega, Nat.le_succ_of_le hb.h1, by show b.high + 1 ≤ _; omega, ?_, fun x hx => ?_, ?_⟩
  · show (b.letters ++ [newLt b q]).length ≤ 32
    rw [List.length_append, List.length_singleton]; omega
  · rcases List.mem_append.1 hx with hx | hx
    · exact (hb.lets x hx).more (Nat.le_succ _) (Nat.le_succ _)
    · rw [List.mem_singleton.1 hx]
      exact ⟨hn1, Nat.lt_succ_self _, g1, Nat.succ_pos _, Nat.le_refl _, g2, g3⟩
  · show (b.letters ++ [newLt b q]).Pairwise _
    refine List.pairwise_append.2 ⟨hb.up, by simp, fun x hx y hy => ?_⟩
    rw [List.mem_singleton.1 hy]
    exact (hb.lets x hx).u2
theorem named_lt {m : Ml} {q : Rq} {i : Nat} (h : namedI m q = some i) : ∃ hi : i < m.boxes.length, m.boxes[i].name.data.toList = q.box.data.toList := by
  unfold namedI at h
  split at h
  · cases h
  · rename_i j hf
    obtain ⟨hl, he, -⟩ := List.findIdx?_eq_some_iff_getElem.1 hf
    split at h
    · have := Option.some.inj h
      subst this
      exact ⟨hl, name_eq he⟩
    · cases h
theorem chSet_right {l by_ : List (List UInt8)} {how : Int} (h1 : rightB l = true) (h2 : rightB by_ = true) (h3 : 0 ≤ how) (h4 : how ≤ 2) (h5 : chCode l how by_ = 0) : rightB (chSet l how by_) = true := by
  have hok := ch_okk h1 h2 h3 (by omega : how < 3)
  unfold chCode at h5
  rw [hok, if_pos rfl] at h5
  have h6 : ¬ 16 < (fset (chIn l how by_)).length := fun hh => by rw [if_pos hh] at h5; cases h5
  unfold chSet
  rw [hok, if_pos rfl, if_neg h6]
  have g1 := (rightB_iff l).1 h1
  have g2 := (rightB_iff by_).1 h2
  refine (rightB_iff _).2 ⟨fun f hf => ?_, by omega, sorted_setS flt_sto _⟩
  have hf2 := (mem_setS flt_sto _ f).1 hf
  unfold chIn at hf2
  rcases List.mem_append.1 hf2 with hf2 | hf2
  · split at hf2
    · cases hf2
    · split at hf2
      · exact g1.1 f hf2
      · exact g1.1 f (List.mem_filter.1 hf2).1
  · split at hf2
    · cases hf2
    · exact g2.1 f hf2
theorem store_right {m : Ml} {q : Rq} {o : Oc} (h : RightP m) : RightP (storeM m q o).2.1 := by
  unfold storeM
  split
  · exact h
  rename_i i hf
  obtain ⟨hl, -⟩ := named_lt hf
  rw [List.getElem?_eq_getElem hl]
  dsimp only
  have hb := h.boxes _ (List.getElem_mem hl)
  generalize hB : m.boxes[i] = b at *
  split
  · exact h
  rename_i h1
  split
  · exact h
  rename_i h2
  split
  · exact h
  split
  · exact h
  rename_i h3 h4
  have g1 : rightB q.flags = true := by cases hh : rightB q.flags with | false => exact absurd (.inl hh) h1 | true => rfl
  have g2 : 0 ≤ q.how := by have : ¬ q.how < 0 := fun hh => h1 (.inr (.inl hh)); omega
  have g3 : q.how ≤ 2 := by have : ¬ 2 < q.how := fun hh => h1 (.inr (.inr hh)); omega
  have hid : ∀ x, (stNew b.letters q b.high x).uid = x.uid := fun x => by unfold stNew; split <;> rfl
  refine h.setM hl _ (by rw [hB]) (by rw [hB]) ⟨hb.ok, hb.nm, hb.v1, hb.v2, hb.n1, hb.n2, Nat.le_succ_of_le hb.h1, by show b.high + 1 ≤ _; omega, ?_, fun x hx => ?_, ?_⟩
  · show (b.letters.map _).length ≤ 32
    rw [List.length_map]; exact hb.len
  · obtain ⟨z, hz, rfl⟩ := List.mem_map.1 hx
    have hp := hb.lets z hz
    unfold stNew
    split
    · rename_i ht
      refine ⟨hp.u1, hp.u2, ?_, Nat.succ_pos _, Nat.le_refl _, hp.hs, hp.sz⟩
      refine chSet_right hp.fl g1 g2 g3 ?_
      unfold stTurns at ht
      rw [Bool.and_eq_true] at ht
      have hnf : stFails b.letters q z = false := by
        cases hh : stFails b.letters q z with
        | false => rfl
        | true => exact absurd (List.any_eq_true.2 ⟨z, hz, hh⟩) h2
      unfold stFails at hnf
      rw [ht.1] at hnf
      simpa using hnf
    · exact hp.more (Nat.le_refl _) (Nat.le_succ _)
  · show (b.letters.map _).Pairwise _
    rw [List.pairwise_map]
    exact hb.up.imp (fun {x y} hxy => by rw [hid, hid]; exact hxy)
theorem expunge_right {m : Ml} {q : Rq} {o : Oc} (h : RightP m) : RightP (expungeM m q o).2.1 := by
  unfold expungeM
  split
  · exact h
  rename_i i hf
  obtain ⟨hl, -⟩ := named_lt hf
  rw [List.getElem?_eq_getElem hl]
  dsimp only
  have hb := h.boxes _ (List.getElem_mem hl)
  generalize hB : m.boxes[i] = b at *
  split
  · exact h
  split
  · exact h
  rename_i h3 h4
  have hs : (b.letters.filter (fun x => !goesB b.letters q x)).Sublist b.letters := List.filter_sublist
  exact h.setM hl _ (by rw [hB]) (by rw [hB]) ⟨hb.ok, hb.nm, hb.v1, hb.v2, hb.n1, hb.n2, Nat.le_succ_of_le hb.h1, by show b.high + 1 ≤ _; omega, Nat.le_trans hs.length_le hb.len, fun x hx => (hb.lets x (hs.subset hx)).more (Nat.le_refl _) (Nat.le_succ _), hb.up.sublist hs⟩
theorem copyL_mem (hh : Nat) : ∀ (l : List Lt) (n : Nat) (x : Lt), x ∈ copyL hh n l → ∃ z ∈ l, x = { z with uid := x.uid, mod := hh } ∧ n ≤ x.uid ∧ x.uid < n + l.length
  | [], n, x, hx => by cases hx
  | z :: r, n, x, hx => by
    rcases List.mem_cons.1 hx with rfl | hx
    · exact ⟨z, by simp, rfl, Nat.le_refl _, by simp⟩
    · obtain ⟨y, hy, e, h1, h2⟩ := copyL_mem hh r (n + 1) x hx
      exact ⟨y, List.mem_cons_of_mem _ hy, e, by omega, by simp only [List.length_cons]; omega⟩
theorem copyL_up (hh : Nat) : ∀ (l : List Lt) (n : Nat), (copyL hh n l).Pairwise (fun x y => x.uid < y.uid)
  | [], n => List.Pairwise.nil
  | z :: r, n => List.pairwise_cons.2 ⟨fun y hy => by obtain ⟨_, _, _, h1, _⟩ := copyL_mem hh r (n + 1) y hy; exact h1, copyL_up hh r (n + 1)⟩
theorem copy_right {m : Ml} {q : Rq} {o : Oc} (h : RightP m) : RightP (copyM m q o).2.1 := by
  unfold copyM
  split
  · exact h
  rename_i i hf
  obtain ⟨hl, -⟩ := named_lt hf
  rw [List.getElem?_eq_getElem hl]
  dsimp only
  have hb := h.boxes _ (List.getElem_mem hl)
  generalize m.boxes[i] = b at hb
  split
  · exact h
  rename_i t ht
  obtain ⟨htl, -, -⟩ := List.findIdx?_eq_some_iff_getElem.1 ht
  rw [List.getElem?_eq_getElem htl]
  dsimp only
  have hd := h.boxes _ (List.getElem_mem htl)
  generalize hD : m.boxes[t] = d at *
  generalize hL : b.letters.filter (meantB b.letters q) = L
  have hLs : ∀ x ∈ L, LetP x b := fun x hx => hb.lets x (by rw [← hL] at hx; exact (List.mem_filter.1 hx).1)
  split
  · exact h
  split
  · exact h
  split
  · exact h
  rename_i h1 h2 h3
  have g4 : ¬ 4294967296 < d.next + L.length := fun hh => h3 (.inl hh)
  have g5 : ¬ 9223372036854775807 ≤ d.high := fun hh => h3 (.inr hh)
  have hn1 := hd.n1
  refine h.setM htl _ (by rw [hD]; rfl) (by rw [hD]; rfl) ⟨hd.ok, hd.nm, hd.v1, hd.v2, by show 1 ≤ d.next + _; omega, by show d.next + L.length ≤ _; omega, Nat.le_succ_of_le hd.h1, by show d.high + 1 ≤ _; omega, ?_, fun x hx => ?_, ?_⟩
  · show (d.letters ++ copyL (d.high + 1) d.next L).length ≤ 32
    rw [List.length_append, copyL_len]; omega
  · rcases List.mem_append.1 hx with hx | hx
    · exact (hd.lets x hx).more (Nat.le_add_right _ _) (Nat.le_succ _)
    · obtain ⟨z, hz, e, h6, h7⟩ := copyL_mem _ _ _ _ hx
      have hp := hLs z hz
      have e1 : x.flags = z.flags := by have h := congrArg Lt.flags e; exact h
      have e2 : x.hash = z.hash := by have h := congrArg Lt.hash e; exact h
      have e3 : x.size = z.size := by have h := congrArg Lt.size e; exact h
      have e4 : x.mod = d.high + 1 := by have h := congrArg Lt.mod e; exact h
      exact ⟨by omega, h7, by rw [e1]; exact hp.fl, by omega, by rw [e4]; exact Nat.le_refl _, by rw [e2]; exact hp.hs, by rw [e3]; exact hp.sz⟩
  · show (d.letters ++ copyL (d.high + 1) d.next L).Pairwise _
    refine List.pairwise_append.2 ⟨hd.up, copyL_up _ _ _, fun x hx y hy => ?_⟩
    obtain ⟨_, _, _, h6, _⟩ := copyL_mem _ _ _ _ hy
    have := (hd.lets x hx).u2
    omega
/-- one home a node -/
theorem home_uniq {l : List Hm} (h : l.Pairwise (fun x y => x.node < y.node)) {a b : Hm} (ha : a ∈ l) (hb : b ∈ l) (e : a.node = b.node) : a = b := by
  obtain ⟨i, hi, rfl⟩ := List.mem_iff_getElem.1 ha
  obtain ⟨j, hj, rfl⟩ := List.mem_iff_getElem.1 hb
  rcases Nat.lt_trichotomy i j with h3 | h3 | h3
  · have := List.pairwise_iff_getElem.1 h i j hi hj h3; omega
  · subst h3; rfl
  · have := List.pairwise_iff_getElem.1 h j i hj hi h3; omega
theorem settle_homes {m : Ml} (h : SeatsP m) (q : Rq) (H : Hm) (hn : H.node = q.node) (l : List Hm) (hl : (settleM { m with homes := m.homes } (idxI (fun x => x.node == q.node) m.homes) H).homes = l) (hH : HomeP H) :
    (∀ x ∈ l, HomeP x) ∧ l.Pairwise (fun x y => x.node < y.node) ∧ H ∈ l ∧ ∀ x ∈ m.homes, x.node ≠ q.node → x ∈ l := by
  subst hl
  unfold settleM idxI
  cases hf : m.homes.findIdx? (fun x => x.node == q.node) with
  | none =>
    have hno : ∀ x ∈ m.homes, x.node ≠ q.node := fun x hx e => by
      have := List.findIdx?_eq_none_iff.1 hf x hx
      rw [e] at this; simp at this
    rw [if_neg (by show ¬ (0 : Int) ≤ -1; omega)]
    dsimp only
    refine ⟨fun x hx => ?_, ?_, (mem_insS hltB H H m.homes).2 (.inl rfl), fun x hx _ => (mem_insS hltB H x m.homes).2 (.inr hx)⟩
    · rcases (mem_insS hltB H x m.homes).1 hx with rfl | hx
      · exact hH
      · exact h.homes x hx
    · refine (insS_ord hltB H (fun x y z a b => ?_) m.homes (h.hup.imp (fun {x y} hxy => decide_eq_true hxy)) (fun x hx hlt => ?_)).imp (fun {x y} hxy => of_decide_eq_true hxy)
      · have h1 := of_decide_eq_true a
        have h2 := of_decide_eq_true b
        exact decide_eq_true (by omega)
      · have h1 := of_decide_eq_false hlt
        have h2 := hno x hx
        exact decide_eq_true (by omega)
  | some i =>
    obtain ⟨hl, he, -⟩ := List.findIdx?_eq_some_iff_getElem.1 hf
    have he' : m.homes[i].node = q.node := eq_of_beq he
    rw [if_pos (by show (0 : Int) ≤ (i : Int); omega)]
    dsimp only
    rw [show (optI (some i)).toNat = i from rfl]
    refine ⟨fun x hx => ?_, ?_, self_set H hl, fun x hx hne => ?_⟩
    · rcases mem_set_out hx with hx | rfl
      · exact h.homes x hx
      · exact hH
    · exact pw_set h.hup hl H (fun x hx => by rw [hn, ← he']; exact hx) (fun x hx => by rw [hn, ← he']; exact hx)
    · rcases mem_set_in H hl hx with rfl | hx
      · exact absurd he' hne
      · exact hx
theorem home_found {m : Ml} (h : SeatsP m) {x : Hm} (hx : x ∈ m.homes) : homeOf m x.node = x := by
  unfold homeOf
  cases hf : m.homes.find? (fun y => y.node == x.node) with
  | none => exact absurd (List.find?_eq_none.1 hf x hx) (by simp)
  | some y =>
    have h1 := List.find?_some hf
    exact home_uniq h.hup (List.mem_of_find?_eq_some hf) hx (eq_of_beq h1)
theorem open_right {m : Ml} {q : Rq} {o : Oc} (h : RightP m) : RightP (openM m q o).2.1 := by
  unfold openM
  split
  · exact h
  rename_i h1
  split
  · exact h
  rename_i h2
  split
  · split
    · exact h
    · exact h
  rename_i h3
  split
  · exact h
  rename_i h4
  have a1 : 1 ≤ q.node := by have : ¬ q.node < 1 := fun hh => h1 (.inl hh); omega
  have a2 : q.node ≤ 5 := by have : ¬ 5 < q.node := fun hh => h1 (.inr (.inl hh)); omega
  have a3 : q.life ≠ 0 := fun hh => h1 (.inr (.inr (.inl hh)))
  have a4 : q.try_ ≠ 0 := fun hh => h1 (.inr (.inr (.inr hh)))
  have a5 : (seatsO m q).length < 16 := Nat.lt_of_not_le fun hh => h4 (.inl hh)
  have a6 : m.ns < 4611686018427387904 := Nat.lt_of_not_le fun hh => h4 (.inr hh)
  have hns := h.ns1
  have hH : HomeP ⟨q.node, q.life, q.try_⟩ := ⟨a1, a2, a3, a4⟩
  have hsub : (seatsO m q).Sublist m.seats := by
    unfold seatsO
    split
    · exact List.filter_sublist
    · exact List.Sublist.refl _
  obtain ⟨b1, b2, b3, b4⟩ := settle_homes h.seated q ⟨q.node, q.life, q.try_⟩ rfl _ rfl hH
  -- a seat that stays has a home
  have hkeep : ∀ x ∈ seatsO m q, ∀ g ∈ m.homes, g.node = x.node → g.life = x.life → x.try_ ≤ g.try_ → g.node = q.node → g.life = q.life ∧ g.try_ < q.try_ := by
    intro x hx g hg e1 e2 e3 e4
    have hg' : homeOf m q.node = g := by rw [← e4]; exact home_found h.seated hg
    rw [hg'] at h2 h3
    have hnl : ¬ g.life < q.life := fun hh => by
      unfold seatsO at hx
      rw [hg', if_pos hh] at hx
      have := (List.mem_filter.1 hx).2
      rw [← e1, e4] at this
      simp at this
    have he : g.life = q.life := by omega
    exact ⟨he, Nat.lt_of_not_le fun hh => h3 ⟨he, hh⟩⟩
  have hboxes : (settleM { m with seats := seatsO m q ++ [⟨m.ns, 0, q.node, q.life, q.try_⟩], ns := m.ns + 1 } (idxI (fun x => x.node == q.node) m.homes) ⟨q.node, q.life, q.try_⟩) =
      { m with seats := seatsO m q ++ [⟨m.ns, 0, q.node, q.life, q.try_⟩], ns := m.ns + 1, homes := (settleM { m with homes := m.homes } (idxI (fun x => x.node == q.node) m.homes) ⟨q.node, q.life, q.try_⟩).homes } := by
    unfold settleM
    split <;> rfl
  dsimp only
  rw [hboxes]
  generalize (settleM { m with homes := m.homes } (idxI (fun x => x.node == q.node) m.homes) ⟨q.node, q.life, q.try_⟩).homes = L at b1 b2 b3 b4
  exact {
    lb := h.lb
    nv := h.nv
    ns1 := by show 1 ≤ m.ns + 1; omega
    ns2 := by show m.ns + 1 ≤ _; omega
    sw := h.sw
    ls := by show (seatsO m q ++ [_]).length ≤ 16; rw [List.length_append, List.length_singleton]; omega
    boxes := h.boxes
    names := h.names
    vals := h.vals
    inbox := h.inbox
    seated := {
      homes := b1
      hup := b2
      seats := fun x hx => by
        rcases List.mem_append.1 hx with hx | hx
        · have hp := h.seated.seats x (hsub.subset hx)
          obtain ⟨g, hg, e1, e2, e3⟩ := hp.home
          refine ⟨hp.s1, by have := hp.s2; show x.session < m.ns + 1; omega, hp.t1, ?_⟩
          by_cases hq : g.node = q.node
          · have hk := hkeep x hx g hg e1 e2 e3 hq
            exact ⟨_, b3, by show q.node = x.node; omega, by show q.life = x.life; omega, by show x.try_ ≤ q.try_; omega⟩
          · exact ⟨g, b4 g hg hq, e1, e2, e3⟩
        · rw [List.mem_singleton.1 hx]
          exact ⟨hns, by show m.ns < m.ns + 1; omega, by show 1 ≤ q.try_; omega, _, b3, rfl, rfl, Nat.le_refl _⟩
      sup := List.pairwise_append.2 ⟨h.seated.sup.sublist hsub, by simp, fun x hx y hy => by
        rw [List.mem_singleton.1 hy]
        exact (h.seated.seats x (hsub.subset hx)).s2⟩
      twin := List.pairwise_append.2 ⟨h.seated.twin.sublist hsub, by simp, fun x hx y hy => by
        rw [List.mem_singleton.1 hy]
        rintro ⟨e, e'⟩
        obtain ⟨g, hg, e1, e2, e3⟩ := (h.seated.seats x (hsub.subset hx)).home
        have e0 : x.node = q.node := e
        have e0' : x.try_ = q.try_ := e'
        have hk := hkeep x hx g hg e1 e2 e3 (by omega)
        omega⟩ } }
theorem put_right {m : Ml} (h : RightP m) (i n : Nat) : RightP (seatPut m i n) := by
  have hg : ∀ (j : Nat) (hj : j < (m.seats.modify i (fun x => { x with last := n })).length) (hj' : j < m.seats.length), (m.seats.modify i (fun x => { x with last := n }))[j] = if i = j then { m.seats[j] with last := n } else m.seats[j] := fun j hj hj' => by
    rw [List.getElem_modify]
  have hk : ∀ (j : Nat) (hj : j < (m.seats.modify i (fun x => { x with last := n })).length) (hj' : j < m.seats.length), (m.seats.modify i (fun x => { x with last := n }))[j].session = m.seats[j].session ∧ (m.seats.modify i (fun x => { x with last := n }))[j].node = m.seats[j].node ∧ (m.seats.modify i (fun x => { x with last := n }))[j].life = m.seats[j].life ∧ (m.seats.modify i (fun x => { x with last := n }))[j].try_ = m.seats[j].try_ := fun j hj hj' => by
    rw [hg j hj hj']
    split <;> exact ⟨rfl, rfl, rfl, rfl⟩
  have hlen : (m.seats.modify i (fun x => { x with last := n })).length = m.seats.length := List.length_modify ..
  refine ⟨h.lb, h.nv, h.ns1, h.ns2, h.sw, by show (m.seats.modify i _).length ≤ 16; rw [hlen]; exact h.ls, h.boxes, h.names, h.vals, h.inbox, ⟨h.seated.homes, h.seated.hup, fun x hx => ?_, ?_, ?_⟩⟩
  · obtain ⟨j, hj, rfl⟩ := List.mem_iff_getElem.1 hx
    have hj2 : j < (m.seats.modify i (fun x => { x with last := n })).length := hj
    have hj' : j < m.seats.length := by rw [hlen] at hj2; exact hj2
    have hp := h.seated.seats _ (List.getElem_mem hj')
    obtain ⟨k1, k2, k3, k4⟩ := hk j hj2 hj'
    have hp2 := hp.home
    refine ⟨?_, ?_, ?_, ?_⟩
    · show 1 ≤ (m.seats.modify i _)[j].session; rw [k1]; exact hp.s1
    · show (m.seats.modify i _)[j].session < m.ns; rw [k1]; exact hp.s2
    · show 1 ≤ (m.seats.modify i _)[j].try_; rw [k4]; exact hp.t1
    · obtain ⟨g, hg, e1, e2, e3⟩ := hp2
      exact ⟨g, hg, e1.trans k2.symm, e2.trans k3.symm, by show (m.seats.modify i _)[j].try_ ≤ g.try_; rw [k4]; exact e3⟩
  · show (m.seats.modify i _).Pairwise _
    rw [List.pairwise_iff_getElem]
    intro a b ha hb hab
    rw [(hk a ha (by rw [hlen] at ha; exact ha)).1, (hk b hb (by rw [hlen] at hb; exact hb)).1]
    exact List.pairwise_iff_getElem.1 h.seated.sup a b _ _ hab
  · show (m.seats.modify i _).Pairwise _
    rw [List.pairwise_iff_getElem]
    intro a b ha hb hab
    have ka := hk a ha (by rw [hlen] at ha; exact ha)
    have kb := hk b hb (by rw [hlen] at hb; exact hb)
    rw [ka.2.1, kb.2.1, ka.2.2.2, kb.2.2.2]
    exact List.pairwise_iff_getElem.1 h.seated.twin a b _ _ hab
theorem fin_fst (r : Int × Ml × Oc) : (finM r).1 = r.2.1 := by unfold finM; split <;> rfl
theorem does_right {m : Ml} {q : Rq} (h : RightP m) : RightP (doesM m q).2.1 := by
  unfold doesM
  split
  · exact open_right h
  split
  · exact end_right h
  split
  · exact look_right h
  split
  · exact create_right h
  split
  · exact remove_right h
  split
  · exact append_right h
  split
  · exact store_right h
  split
  · exact expunge_right h
  split
  · exact copy_right h
  · exact sweep_right h
theorem apply_right {m : Ml} (q : Rq) (h : RightP m) : RightP (applyM m q).1 := by
  unfold applyM
  split
  · exact h
  split
  · rw [fin_fst]; exact does_right h
  split
  · exact h
  · split
    · exact h
    · rw [fin_fst]; exact does_right (put_right h _ _)
end Go.Proofs.YtcnebfmlelcliaaGreat
namespace Go.Proofs.YtcnebfmlelcliaaGreat
set_option linter.unusedSimpArgs false
open Go.RowKit
attribute [local go_sem ↓] Go.wp_at_zero Go.wp_at_succ

set_option maxRecDepth 100000 in
set_option maxHeartbeats 16000000 in
theorem refBoxR_any {W : World} (x : BxV) (next : Nat) (hin : LtsIn W x.v x.rows) (hn : x.name.size ≤ maxLen) (hfl : ∀ z ∈ x.rows, z.x.flags.length ≤ 10000) (hfs : ∀ z ∈ x.rows, Sized z.x.flags) :
    Calls Tryz.prog 31 #[.agg (bxT.enc x).toArray, .int .u64 next] W (YesNo (BoxP x.b next) W) := by
  obtain ⟨nm, va, nx, hg, rows, xa, xc⟩ := x
  dsimp only at hn hfl hfs
  have hz1 := (Zoo.nil W).newBox [.string nm, .int .u64 va, .int .u64 nx, .int .u64 hg, .slice xa rows.length xc].toArray 33
  generalize hMB : W.heap.size = MB at hz1
  generalize hWa : (W.alloc (.cells [.string nm, .int .u64 va, .int .u64 nx, .int .u64 hg, .slice xa rows.length xc].toArray 33)) = Wa at hz1
  have hin0 : Hid (∀ w', Below W.heap.size W w' → LtsIn w' (.slice xa rows.length xc) rows) := Lib.hid (fun w' h => hin.below h)
  have hname := Lib.hid (refBox_any nm hn Wa)
  obtain ⟨hbB, -⟩ := hz1.box 0 rfl
  have x0 : Wa.cell? ⟨MB, 0, none⟩ = some (.string nm) := box_cell hbB 0
  replace hfl := Lib.hid hfl
  replace hfs := Lib.hid hfs
  replace hz1 := Lib.hid hz1
  clear hin hbB hn
  show Calls Tryz.prog 31 #[.agg #[.string nm, .int .u64 va, .int .u64 nx, .int .u64 hg, .slice xa rows.length xc], .int .u64 next] W _
  generalize hP : BoxP _ next = Pp
  replace hP : Hid (BoxP (⟨nm, va, nx, hg, rows.map LtV.x⟩ : Bx) next = Pp) := Lib.hid hP
  go_enter Tryz.func31, Tryz.ntmps31
  go_wp2_with fail
  refine hname.out.mono ?_
  rintro e w3 ⟨u, rfl, hu, hb3⟩
  replace hz1 := Lib.hid (hz1.out.below hb3)
  obtain ⟨hbB, -⟩ := hz1.out.box 0 rfl
  clear x0
  obtain ⟨va2, hva⟩ : ∃ va2 : Nat, va2 = va := ⟨_, rfl⟩
  obtain ⟨nx2, hnx⟩ : ∃ nx2 : Nat, nx2 = nx := ⟨_, rfl⟩
  obtain ⟨hg2, hhg⟩ : ∃ hg2 : Nat, hg2 = hg := ⟨_, rfl⟩
  have x0 : w3.cell? ⟨MB, 0, none⟩ = some (.string nm) := box_cell hbB 0
  have x1 : w3.cell? ⟨MB, 1, none⟩ = some (.int .u64 va2) := by rw [hva]; exact box_cell hbB 1
  have x2 : w3.cell? ⟨MB, 2, none⟩ = some (.int .u64 nx2) := by rw [hnx]; exact box_cell hbB 2
  have x3 : w3.cell? ⟨MB, 3, none⟩ = some (.int .u64 hg2) := by rw [hhg]; exact box_cell hbB 3
  have x4 : w3.cell? ⟨MB, 4, none⟩ = some (.slice xa rows.length xc) := box_cell hbB 4
  replace hva := Lib.hid hva
  replace hnx := Lib.hid hnx
  replace hhg := Lib.hid hhg
  clear hbB hname hb3
  go_upto_region 2 with fail
  go_cut [60] (fun v60 wx => v60 = .bool ((!boxOk nm.data.toList) || ((u.toList != nm.toList)) || (((va2 : Int) == 0)) || (decide ((next : Int) ≤ (va2 : Int))) || (((nx2 : Int) == 0)) || (decide ((4294967296 : Int) < (nx2 : Int))) || (((hg2 : Int) == 0)) || (decide ((9223372036854775807 : Int) < (hg2 : Int))) || (decide ((32 : Int) < (rows.length : Int)))) ∧ Hid (Zoo W wx [boxT MB [.string nm, .int .u64 va, .int .u64 nx, .int .u64 hg, .slice xa rows.length xc].toArray 33]))
  case first =>
    cases g1 : !boxOk nm.data.toList with
    | true =>
      go_wp2_with fail
      go_meet
      case rel => exact ⟨by simp only [g1, Bool.or_false, Bool.or_true, Bool.false_or, Bool.true_or], hz1⟩
    | false =>
      cases g2 : (u.toList != nm.toList) with
      | true =>
        have g2' : (u.toList == nm.toList) = false := by simpa [bne] using g2
        go_wp2_with fail
        go_meet
        case rel => exact ⟨by simp only [g1, g2, Bool.or_false, Bool.or_true, Bool.false_or, Bool.true_or], hz1⟩
      | false =>
        have g2' : (u.toList == nm.toList) = true := by simpa [bne] using g2
        cases g3 : ((va2 : Int) == 0) with
        | true =>
          go_wp2_with fail
          go_meet
          case rel => exact ⟨by simp only [g1, g2, g3, Bool.or_false, Bool.or_true, Bool.false_or, Bool.true_or], hz1⟩
        | false =>
          cases g4 : decide ((next : Int) ≤ (va2 : Int)) with
          | true =>
            have g4' := of_decide_eq_true g4
            replace g4 := Lib.hid g4
            go_wp2_with fail
            go_meet
            case rel => exact ⟨by simp only [g1, g2, g3, g4.out, Bool.or_false, Bool.or_true, Bool.false_or, Bool.true_or], hz1⟩
          | false =>
            have g4'' : decide (next ≤ va2) = false := decide_eq_false (by have h := of_decide_eq_false g4; omega)
            cases g5 : ((nx2 : Int) == 0) with
            | true =>
              go_wp2_with fail
              go_meet
              case rel => exact ⟨by simp only [g1, g2, g3, g4, g5, Bool.or_false, Bool.or_true, Bool.false_or, Bool.true_or], hz1⟩
            | false =>
              cases g6 : decide ((4294967296 : Int) < (nx2 : Int)) with
              | true =>
                have g6' := of_decide_eq_true g6
                replace g6 := Lib.hid g6
                go_wp2_with fail
                go_meet
                case rel => exact ⟨by simp only [g1, g2, g3, g4, g5, g6.out, Bool.or_false, Bool.or_true, Bool.false_or, Bool.true_or], hz1⟩
              | false =>
                cases g7 : ((hg2 : Int) == 0) with
                | true =>
                  go_wp2_with fail
                  go_meet
                  case rel => exact ⟨by simp only [g1, g2, g3, g4, g5, g6, g7, Bool.or_false, Bool.or_true, Bool.false_or, Bool.true_or], hz1⟩
                | false =>
                  cases g8 : decide ((9223372036854775807 : Int) < (hg2 : Int)) with
                  | true =>
                    have g8' := of_decide_eq_true g8
                    replace g8 := Lib.hid g8
                    go_wp2_with fail
                    go_meet
                    case rel => exact ⟨by simp only [g1, g2, g3, g4, g5, g6, g7, g8.out, Bool.or_false, Bool.or_true, Bool.false_or, Bool.true_or], hz1⟩
                  | false =>
                    cases g9 : decide ((32 : Int) < (rows.length : Int)) with
                    | true =>
                      have g9' := of_decide_eq_true g9
                      replace g9 := Lib.hid g9
                      go_wp2_with fail
                      go_meet
                      case rel => exact ⟨by simp only [g1, g2, g3, g4, g5, g6, g7, g8, g9.out, Bool.or_false, Bool.or_true, Bool.false_or, Bool.true_or], hz1⟩
                    | false =>
                      go_wp2_with fail
                      go_meet
                      case rel => exact ⟨by simp only [g1, g2, g3, g4, g5, g6, g7, g8, g9, Bool.or_false, Bool.or_true, Bool.false_or, Bool.true_or], hz1⟩
  case rest =>
  clear hz1 x0 x1 x2 x3 x4
  obtain ⟨rfl, hz1⟩ := hcut
  obtain ⟨B, hB⟩ : ∃ B, ((!boxOk nm.data.toList) || ((u.toList != nm.toList)) || (((va2 : Int) == 0)) || (decide ((next : Int) ≤ (va2 : Int))) || (((nx2 : Int) == 0)) || (decide ((4294967296 : Int) < (nx2 : Int))) || (((hg2 : Int) == 0)) || (decide ((9223372036854775807 : Int) < (hg2 : Int))) || (decide ((32 : Int) < (rows.length : Int)))) = B := ⟨_, rfl⟩
  rw [hB]
  cases B with
  | true =>
    have hno : Hid (false = true ↔ Pp) := Lib.hid (by
      rw [← hP.out]
      refine Iff.intro (fun h => by cases h) (fun h => ?_)
      have g2 : (u.toList != nm.toList) = false := by rw [bne, eqS_of hu (Lib.hid rfl), h.nm]; simp
      have g3 : ((va2 : Int) == 0) = false := beq_eq_false_iff_ne.2 (by have := h.v1; dsimp only at this; have := hva.out; have := hnx.out; have := hhg.out; omega)
      have g4 : decide ((next : Int) ≤ (va2 : Int)) = false := decide_eq_false (by have := h.v2; dsimp only at this; have := hva.out; have := hnx.out; have := hhg.out; omega)
      have g5 : ((nx2 : Int) == 0) = false := beq_eq_false_iff_ne.2 (by have := h.n1; dsimp only at this; have := hva.out; have := hnx.out; have := hhg.out; omega)
      have g6 : decide ((4294967296 : Int) < (nx2 : Int)) = false := decide_eq_false (by have := h.n2; dsimp only at this; have := hva.out; have := hnx.out; have := hhg.out; omega)
      have g7 : ((hg2 : Int) == 0) = false := beq_eq_false_iff_ne.2 (by have := h.h1; dsimp only at this; have := hva.out; have := hnx.out; have := hhg.out; omega)
      have g8 : decide ((9223372036854775807 : Int) < (hg2 : Int)) = false := decide_eq_false (by have := h.h2; dsimp only at this; have := hva.out; have := hnx.out; have := hhg.out; omega)
      have g9 : decide ((32 : Int) < (rows.length : Int)) = false := decide_eq_false (by have := h.len; dsimp only at this; rw [List.length_map] at this; omega)
      have g1 : (!boxOk nm.data.toList) = false := by rw [h.ok]; rfl
      rw [g1, g2, g3, g4, g5, g6, g7, g8, g9] at hB
      exact absurd hB (by simp))
    have hbF := Lib.hid hz1.out.bel
    clear hB hz1
    go_wp2_with fail
    go_ret
    exact ⟨false, rfl, hno, hbF⟩
  | false =>
    simp only [Bool.or_eq_false_iff] at hB
    replace hB := Lib.hid hB
    have hnx2 := hnx.out
    have hBx : Hid (∀ h : (∀ z ∈ rows.map LtV.x, LetP z ⟨nm, va, nx, hg, rows.map LtV.x⟩) ∧ (rows.map LtV.x).Pairwise (fun x y => x.uid < y.uid), BoxP (⟨nm, va, nx, hg, rows.map LtV.x⟩ : Bx) next) := Lib.hid (fun h => by
      obtain ⟨⟨⟨⟨⟨⟨⟨⟨h1, h2⟩, h3⟩, h4⟩, h5⟩, h6⟩, h7⟩, h8⟩, h9⟩ := hB.out
      have e1 := hva.out
      have e3 := hhg.out
      have h4' := of_decide_eq_false h4
      have h6' := of_decide_eq_false h6
      have h8' := of_decide_eq_false h8
      have h9' := of_decide_eq_false h9
      have h3' := beq_eq_false_iff_ne.1 h3
      have h5' := beq_eq_false_iff_ne.1 h5
      have h7' := beq_eq_false_iff_ne.1 h7
      have hnm : boxL nm.data.toList = nm.data.toList := by
        have : (u.toList == nm.toList) = true := by simpa [bne] using h2
        rw [eqS_of hu (Lib.hid rfl)] at this
        exact eq_of_beq this
      have hok : boxOk nm.data.toList = true := by simpa using h1
      exact ⟨hok, hnm, by dsimp only; omega, by dsimp only; omega, by dsimp only; omega, by dsimp only; omega, by dsimp only; omega, by dsimp only; omega, by dsimp only; rw [List.length_map]; omega, h.1, h.2⟩)
    have h32 : rows.length ≤ 32 := by
      have h9' := of_decide_eq_false hB.out.2
      omega
    clear hva hnx hhg hnx2 hB hu va2 nx2 hg2
    obtain ⟨hbB, -⟩ := hz1.out.box 0 rfl
    have x4 : wc.cell? ⟨MB, 4, none⟩ = some (.slice xa rows.length xc) := box_cell hbB 4
    clear hbB
    go_wp2_with fail
    go_loopw [7, 8] (fun v7 v8 wr => ∃ j last : Nat, v8 = .int .i64 j ∧ v7 = .int .u64 last ∧ j ≤ rows.length ∧ Hid (UpTo (rows.map LtV.x) ⟨nm, va, nx, hg, rows.map LtV.x⟩ j last) ∧ Hid (j = 0 ∧ last = 0 ∨ ∃ k, k < j ∧ (rows.map LtV.x)[k]?.map Lt.uid = some last) ∧ Hid (Zoo W wr [boxT MB [.string nm, .int .u64 va, .int .u64 nx, .int .u64 hg, .slice xa rows.length xc].toArray 33])) (fun _ v8 _ => rows.length - (intOf v8).toNat)
    case atStart => exact ⟨0, 0, rfl, rfl, Nat.zero_le _, Lib.hid (UpTo.zero _ _), Lib.hid (.inl ⟨rfl, rfl⟩), hz1⟩
    case round =>
      clear x4 hz1
      obtain ⟨j, last, rfl, rfl, hj, hup, hlast, hz⟩ := hrel
      obtain ⟨hbB, -⟩ := hz.out.box 0 rfl
      have x4 : wr.cell? ⟨MB, 4, none⟩ = some (.slice xa rows.length xc) := box_cell hbB 4
      clear hbB
      by_cases hlt : j < rows.length
      · have hin1 := hin0.out wr hz.out.bel
        obtain ⟨b, bo, cap, hv, -, hblt, hcells⟩ := ltT.rd_cells hin1.1 hlt
        injection hv with hv1 hv2 hv3
        subst hv1 hv3
        have hzm := List.getElem_mem hlt
        have hlm : j < (rows.map LtV.x).length := by rw [List.length_map]; exact hlt
        have hfi := hin1.2 _ hzm
        have hfl1 := hfl.out _ hzm
        have hfs1 := hfs.out _ hzm
        have hstep : ∀ h1 : LetP rows[j].x ⟨nm, va, nx, hg, rows.map LtV.x⟩, last < rows[j].x.uid → UpTo (rows.map LtV.x) ⟨nm, va, nx, hg, rows.map LtV.x⟩ (j + 1) rows[j].x.uid := fun h1 h2 => by
          have := hup.out.step hlm (by rw [List.getElem_map]; exact h1) (by rw [List.getElem_map]; exact h2)
          rwa [List.getElem_map] at this
        have hneed : BoxP (⟨nm, va, nx, hg, rows.map LtV.x⟩ : Bx) next → LetP rows[j].x ⟨nm, va, nx, hg, rows.map LtV.x⟩ ∧ last < rows[j].x.uid := fun h => by
          have h1 := h.lets _ (List.getElem_mem hlm)
          have h2 := h.last hlm hlast.out
          dsimp only at h1 h2
          rw [List.getElem_map] at h1 h2
          exact ⟨h1, h2⟩
        have hnext : (rows.map LtV.x)[j]?.map Lt.uid = some rows[j].x.uid := by rw [List.getElem?_map, List.getElem?_eq_getElem hlt]; rfl
        obtain ⟨z, hz'⟩ : ∃ z, rows[j] = z := ⟨_, rfl⟩
        rw [hz'] at hcells hfi hfl1 hfs1 hstep hneed hnext
        have r0 : wr.cell? ⟨b, bo + (j * 5 + 0), none⟩ = some (.int .u64 z.x.uid) := hcells 0 _ rfl
        have r1 : wr.cell? ⟨b, bo + (j * 5 + 1), none⟩ = some (.slice z.a z.x.flags.length z.c) := hcells 1 _ rfl
        have r2 : wr.cell? ⟨b, bo + (j * 5 + 2), none⟩ = some (.int .u64 z.x.mod) := hcells 2 _ rfl
        have r3 : wr.cell? ⟨b, bo + (j * 5 + 3), none⟩ = some (.string z.x.hash) := hcells 3 _ rfl
        have r4 : wr.cell? ⟨b, bo + (j * 5 + 4), none⟩ = some (.int .u64 z.x.size) := hcells 4 _ rfl
        rw [← Nat.add_assoc] at r0 r1 r2 r3 r4
        rw [Nat.add_zero] at r0
        replace x4 : wr.cell? ⟨MB, 4, none⟩ = some (.slice (some ⟨b, bo, none⟩) rows.length xc) := x4
        have hj0 : (0 : Int) ≤ (j : Int) := by omega
        have hj1 : (j : Int) < (rows.length : Int) := by omega
        have hzb := hz.out.newBox [.int .u64 z.x.uid, .slice z.a z.x.flags.length z.c, .int .u64 z.x.mod, .string z.x.hash, .int .u64 z.x.size].toArray 66
        have hbl := Below.refl wr.heap.size wr
        have hfi2 := Rd.below hfi (hbl.alloc (Nat.le_refl _) (.cells [.int .u64 z.x.uid, .slice z.a z.x.flags.length z.c, .int .u64 z.x.mod, .string z.x.hash, .int .u64 z.x.size].toArray 66))
        have hright : Hid (Calls Tryz.prog 53 #[.slice z.a z.x.flags.length z.c] (wr.alloc (.cells #[.int .u64 z.x.uid, .slice z.a z.x.flags.length z.c, .int .u64 z.x.mod, .string z.x.hash, .int .u64 z.x.size] 66)) fun e w' => e = .returned (.bool (rightB z.x.flags)) ∧ Hid (Below (wr.alloc (.cells #[.int .u64 z.x.uid, .slice z.a z.x.flags.length z.c, .int .u64 z.x.mod, .string z.x.hash, .int .u64 z.x.size] 66)).heap.size (wr.alloc (.cells #[.int .u64 z.x.uid, .slice z.a z.x.flags.length z.c, .int .u64 z.x.mod, .string z.x.hash, .int .u64 z.x.size] 66)) w')) := Lib.hid (refRight_any _ z.x.flags _ hfi2 (by omega) hfs1)
        replace hzb := Lib.hid hzb
        replace hstep := Lib.hid hstep
        replace hneed := Lib.hid hneed
        replace hnext := Lib.hid hnext
        clear hcells hfi hfl1 hfs1 hin1 hzm hlm hz' hbl hfi2 hz
        go_upto_region 9 with fail
        generalize hLbE : wr.heap.size = Lb at hzb hright ⊢
        generalize hWl : (wr.alloc (.cells #[.int .u64 z.x.uid, .slice z.a z.x.flags.length z.c, .int .u64 z.x.mod, .string z.x.hash, .int .u64 z.x.size] 66)) = wl at hzb hright ⊢
        have hz3 := hzb
        clear hzb hLbE hWl r0 r1 r2 r3 r4 x4
        obtain ⟨hbL, -⟩ := hz3.out.box 0 rfl
        obtain ⟨hbB, -⟩ := hz3.out.box 1 rfl
        have y0 : wl.cell? ⟨Lb, 0, none⟩ = some (.int .u64 z.x.uid) := box_cell hbL 0
        have y1 : wl.cell? ⟨Lb, 1, none⟩ = some (.slice z.a z.x.flags.length z.c) := box_cell hbL 1
        have y2 : wl.cell? ⟨Lb, 2, none⟩ = some (.int .u64 z.x.mod) := box_cell hbL 2
        have y3 : wl.cell? ⟨Lb, 3, none⟩ = some (.string z.x.hash) := box_cell hbL 3
        have y4 : wl.cell? ⟨Lb, 4, none⟩ = some (.int .u64 z.x.size) := box_cell hbL 4
        have x0 : wl.cell? ⟨MB, 0, none⟩ = some (.string nm) := box_cell hbB 0
        have x1 : wl.cell? ⟨MB, 1, none⟩ = some (.int .u64 va) := box_cell hbB 1
        have x2 : wl.cell? ⟨MB, 2, none⟩ = some (.int .u64 nx) := box_cell hbB 2
        have x3 : wl.cell? ⟨MB, 3, none⟩ = some (.int .u64 hg) := box_cell hbB 3
        have x4 : wl.cell? ⟨MB, 4, none⟩ = some (.slice (some ⟨b, bo, none⟩) rows.length xc) := box_cell hbB 4
        go_cut [112] (fun v112 wx => v112 = .bool ((decide ((z.x.uid : Int) ≤ (last : Int))) || (decide ((nx : Int) ≤ (z.x.uid : Int))) || (!rightB z.x.flags) || (((z.x.mod : Int) == 0)) || (decide ((hg : Int) < (z.x.mod : Int))) || (((z.x.hash.size : Int) != 32)) || (decide ((4096 : Int) < (z.x.size : Int)))) ∧ Hid (Zoo W wx [boxT Lb [.int .u64 z.x.uid, .slice z.a z.x.flags.length z.c, .int .u64 z.x.mod, .string z.x.hash, .int .u64 z.x.size].toArray 66, boxT MB [.string nm, .int .u64 va, .int .u64 nx, .int .u64 hg, .slice (some ⟨b, bo, none⟩) rows.length xc].toArray 33]))
        case first =>
          cases l1 : decide ((z.x.uid : Int) ≤ (last : Int)) with
          | true =>
            have l1' := of_decide_eq_true l1
            replace l1 := Lib.hid l1
            go_wp2_with fail
            go_meet
            case rel => exact ⟨by simp only [l1.out, Bool.or_false, Bool.or_true, Bool.false_or, Bool.true_or], hz3⟩
          | false =>
            have l1'' : decide (z.x.uid ≤ last) = false := decide_eq_false (by have h := of_decide_eq_false l1; omega)
            cases l2 : decide ((nx : Int) ≤ (z.x.uid : Int)) with
            | true =>
              have l2' := of_decide_eq_true l2
              replace l2 := Lib.hid l2
              go_wp2_with fail
              go_meet
              case rel => exact ⟨by simp only [l1, l2.out, Bool.or_false, Bool.or_true, Bool.false_or, Bool.true_or], hz3⟩
            | false =>
              have l2'' : decide (nx ≤ z.x.uid) = false := decide_eq_false (by have h := of_decide_eq_false l2; omega)
              go_wp2_with fail
              refine hright.out.mono ?_
              rintro e w5 ⟨rfl, hb5⟩
              have hz4 := hz3.out.below hb5.out
              clear y0 y1 y2 y3 y4 x0 x1 x2 x3 x4 hbL hbB
              obtain ⟨hbL, -⟩ := hz4.box 0 rfl
              obtain ⟨hbB, -⟩ := hz4.box 1 rfl
              have y0 : w5.cell? ⟨Lb, 0, none⟩ = some (.int .u64 z.x.uid) := box_cell hbL 0
              have y1 : w5.cell? ⟨Lb, 1, none⟩ = some (.slice z.a z.x.flags.length z.c) := box_cell hbL 1
              have y2 : w5.cell? ⟨Lb, 2, none⟩ = some (.int .u64 z.x.mod) := box_cell hbL 2
              have y3 : w5.cell? ⟨Lb, 3, none⟩ = some (.string z.x.hash) := box_cell hbL 3
              have y4 : w5.cell? ⟨Lb, 4, none⟩ = some (.int .u64 z.x.size) := box_cell hbL 4
              have x0 : w5.cell? ⟨MB, 0, none⟩ = some (.string nm) := box_cell hbB 0
              have x1 : w5.cell? ⟨MB, 1, none⟩ = some (.int .u64 va) := box_cell hbB 1
              have x2 : w5.cell? ⟨MB, 2, none⟩ = some (.int .u64 nx) := box_cell hbB 2
              have x3 : w5.cell? ⟨MB, 3, none⟩ = some (.int .u64 hg) := box_cell hbB 3
              have x4 : w5.cell? ⟨MB, 4, none⟩ = some (.slice (some ⟨b, bo, none⟩) rows.length xc) := box_cell hbB 4
              replace hz4 := Lib.hid hz4
              clear hright hbL hbB
              cases l3 : !rightB z.x.flags with
              | true =>
                go_wp2_with fail
                go_meet
                case rel => exact ⟨by simp only [l1, l2, l3, Bool.or_false, Bool.or_true, Bool.false_or, Bool.true_or], hz4⟩
              | false =>
                cases l4 : ((z.x.mod : Int) == 0) with
                | true =>
                  go_wp2_with fail
                  go_meet
                  case rel => exact ⟨by simp only [l1, l2, l3, l4, Bool.or_false, Bool.or_true, Bool.false_or, Bool.true_or], hz4⟩
                | false =>
                  cases l5 : decide ((hg : Int) < (z.x.mod : Int)) with
                  | true =>
                    have l5' := of_decide_eq_true l5
                    replace l5 := Lib.hid l5
                    go_wp2_with fail
                    go_meet
                    case rel => exact ⟨by simp only [l1, l2, l3, l4, l5.out, Bool.or_false, Bool.or_true, Bool.false_or, Bool.true_or], hz4⟩
                  | false =>
                    have l5'' : decide (hg < z.x.mod) = false := decide_eq_false (by have h := of_decide_eq_false l5; omega)
                    cases l6 : ((z.x.hash.size : Int) != 32) with
                    | true =>
                      go_wp2_with fail
                      go_meet
                      case rel => exact ⟨by simp only [l1, l2, l3, l4, l5, l6, Bool.or_false, Bool.or_true, Bool.false_or, Bool.true_or], hz4⟩
                    | false =>
                      cases l7 : decide ((4096 : Int) < (z.x.size : Int)) with
                      | true =>
                        have l7' := of_decide_eq_true l7
                        replace l7 := Lib.hid l7
                        go_wp2_with fail
                        go_meet
                        case rel => exact ⟨by simp only [l1, l2, l3, l4, l5, l6, l7.out, Bool.or_false, Bool.or_true, Bool.false_or, Bool.true_or], hz4⟩
                      | false =>
                        go_wp2_with fail
                        go_meet
                        case rel => exact ⟨by simp only [l1, l2, l3, l4, l5, l6, l7, Bool.or_false, Bool.or_true, Bool.false_or, Bool.true_or], hz4⟩
        case rest =>
        clear hz3 y0 y1 y2 y3 y4 x0 x1 x2 x3 x4 hright
        obtain ⟨rfl, hz3⟩ := hcut
        obtain ⟨B, hB⟩ : ∃ B, ((decide ((z.x.uid : Int) ≤ (last : Int))) || (decide ((nx : Int) ≤ (z.x.uid : Int))) || (!rightB z.x.flags) || (((z.x.mod : Int) == 0)) || (decide ((hg : Int) < (z.x.mod : Int))) || (((z.x.hash.size : Int) != 32)) || (decide ((4096 : Int) < (z.x.size : Int)))) = B := ⟨_, rfl⟩
        rw [hB]
        cases B with
        | true =>
          have hno : Hid (false = true ↔ Pp) := Lib.hid (by
            rw [← hP.out]
            refine Iff.intro (fun h => by cases h) (fun h => ?_)
            obtain ⟨h1, h2⟩ := hneed.out h
            have l1 : decide ((z.x.uid : Int) ≤ (last : Int)) = false := decide_eq_false (by omega)
            have l2 : decide ((nx : Int) ≤ (z.x.uid : Int)) = false := decide_eq_false (by have := h1.u2; dsimp only at this; omega)
            have l3 : (!rightB z.x.flags) = false := by rw [h1.fl]; rfl
            have l4 : ((z.x.mod : Int) == 0) = false := beq_eq_false_iff_ne.2 (by have := h1.m1; omega)
            have l5 : decide ((hg : Int) < (z.x.mod : Int)) = false := decide_eq_false (by have := h1.m2; dsimp only at this; omega)
            have l6 : ((z.x.hash.size : Int) != 32) = false := by rw [h1.hs]; rfl
            have l7 : decide ((4096 : Int) < (z.x.size : Int)) = false := decide_eq_false (by have := h1.sz; omega)
            rw [l1, l2, l3, l4, l5, l6, l7] at hB
            exact absurd hB (by simp))
          have hbF := Lib.hid hz3.out.bel
          clear hB hz3 hup hlast hBx hstep hneed hnext
          go_wp2_with fail
          go_ret
          exact ⟨false, rfl, hno, hbF⟩
        | false =>
          simp only [Bool.or_eq_false_iff] at hB
          obtain ⟨⟨⟨⟨⟨⟨l1, l2⟩, l3⟩, l4⟩, l5⟩, l6⟩, l7⟩ := hB
          have hlp : LetP z.x ⟨nm, va, nx, hg, rows.map LtV.x⟩ ∧ last < z.x.uid := by
            have l1' := of_decide_eq_false l1
            have l2' := of_decide_eq_false l2
            have l4' := beq_eq_false_iff_ne.1 l4
            have l5' := of_decide_eq_false l5
            have l6' : z.x.hash.size = 32 := Int.ofNat.inj (show (z.x.hash.size : Int) = 32 by simpa [bne] using l6)
            have l7' := of_decide_eq_false l7
            exact ⟨⟨by omega, by dsimp only; omega, by simpa using l3, by omega, by dsimp only; omega, l6', by omega⟩, by omega⟩
          have hup2 := Lib.hid (hstep.out hlp.1 hlp.2)
          have hlast2 : Hid (j + 1 = 0 ∧ z.x.uid = 0 ∨ ∃ k, k < j + 1 ∧ (rows.map LtV.x)[k]?.map Lt.uid = some z.x.uid) := Lib.hid (.inr ⟨j, by omega, hnext.out⟩)
          obtain ⟨hbL, -⟩ := hz3.out.box 0 rfl
          have y0 : wc.cell? ⟨Lb, 0, none⟩ = some (.int .u64 z.x.uid) := box_cell hbL 0
          have hz4 := Lib.hid hz3.out.tail
          clear l1 l2 l3 l4 l5 l6 l7 hlp hbL hz3 hup hlast hstep hneed hnext
          go_wp2_with fail
          go_roundw
          case rel => exact ⟨j + 1, z.x.uid, by go_num, rfl, by omega, hup2, hlast2, hz4⟩
          case measure => simp [intOf] <;> omega
      · have hj1 : (rows.length : Int) ≤ (j : Int) := by omega
        have hj2 : ¬ ((j : Int) < (rows.length : Int)) := by omega
        have hyes : Hid Pp := Lib.hid (by
          rw [← hP.out]
          have hje : j = (rows.map LtV.x).length := by rw [List.length_map]; omega
          have h1 := hup.out
          unfold UpTo at h1
          rw [hje, List.take_length] at h1
          exact hBx.out ⟨h1.1, h1.2.1⟩)
        have hbF := Lib.hid hz.out.bel
        clear hup hlast hBx hz
        go_wp2_with fail
        go_ret
        exact ⟨true, rfl, Lib.hid (Iff.intro (fun _ => hyes.out) (fun _ => rfl)), hbF⟩
end Go.Proofs.YtcnebfmlelcliaaGreat
namespace Go.Proofs.YtcnebfmlelcliaaGreat
set_option linter.unusedSimpArgs false
open Go.RowKit
attribute [local go_sem ↓] Go.wp_at_zero Go.wp_at_succ

def HomeRet (W : World) (hs : List Hm) (node : Int) (e : Ending) (w' : World) : Prop := e = .returned (.tuple #[.agg (hmCells ((hs.find? (fun x => x.node == node)).getD ⟨0, 0, 0⟩)).toArray, .bool (hs.find? (fun x => x.node == node)).isSome]) ∧ Hid (Below W.heap.size W w')
set_option maxRecDepth 100000 in
set_option maxHeartbeats 8000000 in
theorem refHome_any {W : World} (ab ah as_ : Option Addr) (nb cb ch ns cs nv nse sw : Nat) (hs : List Hm) (node : Int) (hh : HmsIn W (.slice ah hs.length ch) hs) (hl : hs.length ≤ 100000) :
    Calls Tryz.prog 54 #[mlVal (.slice ab nb cb) nv (.slice ah hs.length ch) (.slice as_ ns cs) nse sw, .int .i64 node] W (HomeRet W hs node) := by
  have hz1 := ((Zoo.nil W).newBox [.slice ab nb cb, .int .u64 nv, .slice ah hs.length ch, .slice as_ ns cs, .int .u64 nse, .int .u64 sw].toArray 27)
  generalize hMB : W.heap.size = MB at hz1
  generalize hWa : (W.alloc (.cells [.slice ab nb cb, .int .u64 nv, .slice ah hs.length ch, .slice as_ ns cs, .int .u64 nse, .int .u64 sw].toArray 27)) = Wa at hz1
  have hz2 := hz1.newBox hm0L.toArray 108
  unfold hm0L at hz2
  generalize hHB : Wa.heap.size = HB at hz2
  generalize hWb : (Wa.alloc (.cells [.int .i64 0, .int .u64 0, .int .u64 0].toArray 108)) = Wb at hz2
  have hh0 : Hid (∀ w', Below W.heap.size W w' → HmsIn w' (.slice ah hs.length ch) hs) := Lib.hid (fun w' h => Rd.below hh h)
  replace hz2 := Lib.hid hz2
  clear hh hz1
  unfold mlVal
  go_enter Tryz.func54, Tryz.ntmps54
  go_wp2_with fail
  clear hMB hWa hHB hWb
  go_loopw [6] (fun v6 wr => ∃ j : Nat, v6 = .int .i64 j ∧ j ≤ hs.length ∧ Hid (∀ k (h : k < hs.length), k < j → (hs[k].node == node) = false) ∧ wr = Wb) (fun v6 _ => hs.length - (intOf v6).toNat)
  case atStart => exact ⟨0, rfl, Nat.zero_le _, Lib.hid (fun k h hk => by omega), rfl⟩
  case round =>
    obtain ⟨j, rfl, hj, hno, rfl⟩ := hrel
    obtain ⟨hbM, -⟩ := hz2.out.box 1 rfl
    obtain ⟨hbH, -⟩ := hz2.out.box 0 rfl
    have x2 : wr.cell? ⟨MB, 2, none⟩ = some (.slice ah hs.length ch) := box_cell hbM 2
    have h0 : wr.cell? ⟨HB, 0, none⟩ = some (.int .i64 0) := box_cell hbH 0
    have h1 : wr.cell? ⟨HB, 1, none⟩ = some (.int .u64 0) := box_cell hbH 1
    have h2 : wr.cell? ⟨HB, 2, none⟩ = some (.int .u64 0) := box_cell hbH 2
    have f0 := box_free hbH 0
    have f1 := box_free hbH 1
    have f2 := box_free hbH 2
    clear hbM hbH
    by_cases hlt : j < hs.length
    · have hin := hh0.out wr hz2.out.bel
      obtain ⟨b, bo, cap, hv, -, hblt, hcells⟩ := hmT.rd_cells hin hlt
      injection hv with hv1 hv2 hv3
      subst hv1 hv3
      obtain ⟨x, hx⟩ : ∃ x, hs[j] = x := ⟨_, rfl⟩
      rw [hx] at hcells
      have r0 : wr.cell? ⟨b, bo + (j * 3 + 0), none⟩ = some (.int .i64 x.node) := hcells 0 _ rfl
      have r1 : wr.cell? ⟨b, bo + (j * 3 + 1), none⟩ = some (.int .u64 x.life) := hcells 1 _ rfl
      have r2 : wr.cell? ⟨b, bo + (j * 3 + 2), none⟩ = some (.int .u64 x.try_) := hcells 2 _ rfl
      rw [← Nat.add_assoc] at r0 r1 r2
      rw [Nat.add_zero] at r0
      have hj0 : (0 : Int) ≤ (j : Int) := by omega
      have hj1 : (j : Int) < (hs.length : Int) := by omega
      replace hx := Lib.hid hx
      clear hcells hin
      cases hq : (x.node == node) with
      | true =>
        have hf : Hid (hs.find? (fun x => x.node == node) = some x) := Lib.hid (by
          rw [List.find?_eq_some_iff_getElem]
          exact ⟨hq, j, hlt, hx.out, fun k hk => by rw [hno.out k (by omega) hk]; rfl⟩)
        have hz4 := ((hz2.out.setBox 0 rfl 0 (.int .i64 x.node)).setBox 0 rfl 1 (.int .u64 x.life)).setBox 0 rfl 2 (.int .u64 x.try_)
        have hbF := Lib.hid (hz4.box 0 rfl).1
        have hbel := Lib.hid hz4.bel
        clear hno hz4 hz2
        go_wp2_with fail
        refine bodyPost_ret (results_cell_tmp_row rfl _ _ HB (hmCells x) rfl hbF.out Tryz.isAgg108 Tryz.sizeOf108) rfl ?_
        exact ⟨by rw [hf.out]; rfl, hbel⟩
      | false =>
        have hno2 : Hid (∀ k (h : k < hs.length), k < j + 1 → (hs[k].node == node) = false) := Lib.hid (fun k h hk => by
          by_cases e : k = j
          · subst e; rw [hx.out]; exact hq
          · exact hno.out k h (by omega))
        clear hno
        go_wp2_with fail
        go_roundw
        case rel => exact ⟨j + 1, by go_num, by omega, hno2, trivial⟩
        case measure => simp [intOf] <;> omega
    · have hj1 : (hs.length : Int) ≤ (j : Int) := by omega
      have hj2 : ¬ ((j : Int) < (hs.length : Int)) := by omega
      have hf : Hid (hs.find? (fun x => x.node == node) = none) := Lib.hid (by
        rw [List.find?_eq_none]
        intro x hx
        obtain ⟨k, hk, rfl⟩ := List.mem_iff_getElem.1 hx
        rw [hno.out k hk (by omega)]; simp)
      have hz4 := ((hz2.out.setBox 0 rfl 0 (.int .i64 0)).setBox 0 rfl 1 (.int .u64 0)).setBox 0 rfl 2 (.int .u64 0)
      have hbF := Lib.hid (hz4.box 0 rfl).1
      have hbel := Lib.hid hz4.bel
      clear hno hz4 hz2
      go_wp2_with fail
      refine bodyPost_ret (results_cell_tmp_row rfl _ _ HB (hmCells ⟨0, 0, 0⟩) rfl hbF.out Tryz.isAgg108 Tryz.sizeOf108) rfl ?_
      exact ⟨by rw [hf.out]; rfl, hbel⟩
end Go.Proofs.YtcnebfmlelcliaaGreat
