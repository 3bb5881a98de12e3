/- MailCopies: the plain law: what a copy puts into the mailbox it goes to, and what it answers. -/
import Derived.Test.YtdobbfjmlnlieaaGreatB35
namespace Go.Proofs.YtdobbfjmlnlieaaGreat
set_option linter.unusedSimpArgs false
open Go.RowKit

/-- what a copy answers that says no -/
theorem copy_bad {m : Ml} {q : Rq} (hop : q.op = 9) (hc : (applyM m q).2.code ≠ 0) : (applyM m q).2.uids = [] ∧ (applyM m q).1.boxes = m.boxes := by
  have key : ∀ m2 : Ml, m2.boxes = m.boxes → (finM (doesM m2 q)).2.code ≠ 0 → (finM (doesM m2 q)).2.uids = [] ∧ (finM (doesM m2 q)).1.boxes = m.boxes := by
    intro m2 hb
    have hd : doesM m2 q = copyM m2 q oc0 := by unfold doesM; rw [hop]; simp
    rw [hd]
    unfold copyM
    repeat' split
    all_goals first
      | (intro _; exact ⟨rfl, hb⟩)
      | (intro h; exact absurd rfl h)
  unfold applyM at hc ⊢
  split at hc
  · rename_i h; rw [if_pos h]; exact ⟨rfl, rfl⟩
  · rename_i h
    rw [if_neg h]
    rw [if_neg (by rw [hop]; decide)] at hc ⊢
    split at hc
    · exact ⟨rfl, rfl⟩
    · rename_i i hi
      split at hc
      · rename_i h2; rw [if_pos h2]; exact ⟨rfl, rfl⟩
      · rename_i h2; rw [if_neg h2]; exact key (seatPut m i q.number) rfl hc
/-- what a copy has done that says yes -/
structure Copied (m : Ml) (q : Rq) (t : Ml) (o : Oc) (f a b : Bx) : Prop where
  memf : f ∈ m.boxes
  mema : a ∈ m.boxes
  src : findM m q.box = some f
  was : findM m q.to_ = some a
  now : findM t q.to_ = some b
  lets : b.letters = a.letters ++ copyL (a.high + 1) a.next (f.letters.filter (meantB f.letters q))
  uids : o.uids = List.range' a.next (f.letters.filter (meantB f.letters q)).length
theorem copy_good {m : Ml} {q : Rq} (h : RightP m) (hop : q.op = 9) (hc : (applyM m q).2.code = 0) : ∃ f a b, Copied m q (applyM m q).1 (applyM m q).2 f a b := by
  have hr := apply_right q h
  have key : ∀ m2 : Ml, m2.boxes = m.boxes → RightP m2 → RightP (finM (doesM m2 q)).1 → (finM (doesM m2 q)).2.code = 0 → ∃ f a b, Copied m q (finM (doesM m2 q)).1 (finM (doesM m2 q)).2 f a b := by
    intro m2 hb hm2
    have hd : doesM m2 q = copyM m2 q oc0 := by unfold doesM; rw [hop]; simp
    rw [hd]
    unfold copyM
    cases hn : namedI m2 q with
    | none => exact fun _ h6 => absurd h6 (show ¬ (6 : Int) = 0 by decide)
    | some i =>
      obtain ⟨hi, hnm⟩ := named_lt hn
      have hnm : m2.boxes[i].name = q.box := toList_inj_ (by rw [ByteArray.toList_eq, ByteArray.toList_eq]; exact hnm)
      have hmemf : m2.boxes[i] ∈ m.boxes := by rw [← hb]; exact List.getElem_mem hi
      have hsrc : findM m q.box = some m2.boxes[i] := by rw [← hnm]; exact find_in h hmemf
      dsimp only
      rw [List.getElem?_eq_getElem hi]
      dsimp only
      generalize hF : m2.boxes[i] = f at hmemf hsrc ⊢
      clear hnm
      cases hft : m2.boxes.findIdx? (fun x => x.name.toList == q.to_.toList) with
      | none => exact fun _ h6 => absurd h6 (show ¬ (21 : Int) = 0 by decide)
      | some t =>
        obtain ⟨ht, hte, -⟩ := List.findIdx?_eq_some_iff_getElem.1 hft
        have hnt : m2.boxes[t].name = q.to_ := toList_inj_ (eq_of_beq hte)
        have hmema : m2.boxes[t] ∈ m.boxes := by rw [← hb]; exact List.getElem_mem ht
        have hwas : findM m q.to_ = some m2.boxes[t] := by rw [← hnt]; exact find_in h hmema
        dsimp only
        rw [List.getElem?_eq_getElem ht]
        dsimp only
        generalize hA : m2.boxes[t] = a at hnt hmema hwas ⊢
        split
        · rename_i hno
          intro hr2 _
          refine ⟨f, a, a, hmemf, hmema, hsrc, hwas, ?_, ?_, ?_⟩
          · rw [← hnt]; exact find_in hr2 (by show a ∈ m2.boxes; rw [← hA]; exact List.getElem_mem ht)
          · rw [hno]; exact (List.append_nil _).symm
          · rw [hno]; rfl
        split
        · exact fun _ h6 => absurd h6 (show ¬ (7 : Int) = 0 by decide)
        split
        · exact fun _ h6 => absurd h6 (show ¬ (13 : Int) = 0 by decide)
        intro hr2 _
        refine ⟨f, a, copied a (f.letters.filter (meantB f.letters q)), hmemf, hmema, hsrc, hwas, ?_, rfl, ?_⟩
        · refine (congrArg (findM _) hnt.symm).trans (find_in (b := copied a (f.letters.filter (meantB f.letters q))) hr2 ?_)
          exact self_set _ ht
        · show [] ++ List.range' _ _ = _
          rw [List.nil_append]
  unfold applyM at hc hr ⊢
  split at hc
  · exact absurd hc (show ¬ (1 : Int) = 0 by decide)
  · rename_i hh
    rw [if_neg hh] at hr ⊢
    rw [if_neg (by rw [hop]; decide)] at hc hr ⊢
    split at hc
    · exact absurd hc (show ¬ (16 : Int) = 0 by decide)
    · rename_i i hi
      split at hc
      · exact absurd hc (show ¬ (14 : Int) = 0 by decide)
      · rename_i h2
        rw [hi] at hr
        dsimp only at hr
        rw [if_neg h2] at hr ⊢
        exact key (seatPut m i q.number) rfl (put_right h i q.number) hr hc
theorem copyL_get (h : Nat) : ∀ (l : List Lt) (n j : Nat), (copyL h n l)[j]? = l[j]?.map (fun x => { x with uid := n + j, mod := h })
  | [], n, j => by simp [copyL]
  | x :: r, n, 0 => rfl
  | x :: r, n, j + 1 => by
    show (copyL h (n + 1) r)[j]? = r[j]?.map _
    rw [copyL_get h r (n + 1) j, show n + 1 + j = n + (j + 1) from by omega]
/-- how many of the first i letters are meant -/
def cntL (p : Lt → Bool) (l : List Lt) (i : Nat) : Nat := ((l.take i).filter p).length
theorem cntL_all (p : Lt → Bool) (l : List Lt) : cntL p l l.length = (l.filter p).length := by unfold cntL; rw [List.take_length]
theorem cntL_no {p : Lt → Bool} {l : List Lt} {i : Nat} (hi : i < l.length) (h : p l[i] = false) : cntL p l (i + 1) = cntL p l i := by
  unfold cntL
  rw [List.take_succ_eq_append_getElem hi, List.filter_append]
  simp [h]
theorem cntL_yes {p : Lt → Bool} {l : List Lt} {i : Nat} (hi : i < l.length) (h : p l[i] = true) : cntL p l (i + 1) = cntL p l i + 1 := by
  unfold cntL
  rw [List.take_succ_eq_append_getElem hi, List.filter_append]
  simp [h]
theorem cntL_le (p : Lt → Bool) (l : List Lt) (i : Nat) : cntL p l i ≤ (l.filter p).length := ((List.take_sublist i l).filter p).length_le
theorem cntL_get {p : Lt → Bool} {l : List Lt} {i : Nat} (hi : i < l.length) (h : p l[i] = true) : (l.filter p)[cntL p l i]? = some l[i] := by
  have h1 : l = l.take i ++ l[i] :: l.drop (i + 1) := by rw [List.getElem_cons_drop, List.take_append_drop]
  have h2 : l.filter p = (l.take i).filter p ++ (l[i] :: (l.drop (i + 1)).filter p) := by
    conv => lhs; rw [h1]
    rw [List.filter_append, List.filter_cons, if_pos h]
  rw [h2]
  unfold cntL
  rw [List.getElem?_append_right (Nat.le_refl _), Nat.sub_self]
  rfl
theorem cntL_lt {p : Lt → Bool} {l : List Lt} {i : Nat} (hi : i < l.length) (h : p l[i] = true) : cntL p l i < (l.filter p).length := by
  have := cntL_le p l (i + 1)
  rw [cntL_yes hi h] at this
  omega
/-- the copy of a letter that is meant -/
theorem Copied.at_ {m : Ml} {q : Rq} {t : Ml} {o : Oc} {f a b : Bx} (h : Copied m q t o f a b) {i : Nat} (hi : i < f.letters.length) (hm : meantB f.letters q f.letters[i] = true) :
    b.letters[a.letters.length + cntL (meantB f.letters q) f.letters i]? = some { f.letters[i] with uid := a.next + cntL (meantB f.letters q) f.letters i, mod := a.high + 1 } ∧ o.uids[cntL (meantB f.letters q) f.letters i]? = some (a.next + cntL (meantB f.letters q) f.letters i) := by
  constructor
  · rw [h.lets, List.getElem?_append_right (Nat.le_add_right _ _), Nat.add_sub_cancel_left, copyL_get, cntL_get hi hm]
    rfl
  · rw [h.uids, List.getElem?_range' (cntL_lt hi hm), Nat.one_mul]
theorem Copied.len {m : Ml} {q : Rq} {t : Ml} {o : Oc} {f a b : Bx} (h : Copied m q t o f a b) : b.letters.length = a.letters.length + o.uids.length := by
  rw [h.lets, h.uids, List.length_append, copyL_len, List.length_range']
theorem Copied.ulen {m : Ml} {q : Rq} {t : Ml} {o : Oc} {f a b : Bx} (h : Copied m q t o f a b) : o.uids.length = (f.letters.filter (meantB f.letters q)).length := by
  rw [h.uids, List.length_range']
theorem Copied.take_ {m : Ml} {q : Rq} {t : Ml} {o : Oc} {f a b : Bx} (h : Copied m q t o f a b) : b.letters.take a.letters.length = a.letters := by
  rw [h.lets, List.take_left']
  rfl
end Go.Proofs.YtdobbfjmlnlieaaGreat
