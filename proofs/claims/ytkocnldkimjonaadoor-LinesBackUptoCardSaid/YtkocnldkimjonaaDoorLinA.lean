/- 'awaited', of the program and of the document: the literal's number with which a part ends. -/
import Derived.Test.YtkocnldkimjonaaDoorNum
import Derived.Lib.LastIndexByte
namespace Go.Proofs.YtkocnldkimjonaaDoor
open Go.RowKit

/-- a number and a bool are handed back -/
def RetOpt (o : Option Nat) (w : World) (e : Ending) (w' : World) : Prop := ∃ (k : Nat) (ok : Bool), e = .returned (.tuple #[.int .u64 k, .bool ok]) ∧ Hid (o = (if ok then some k else none) ∧ (ok = false → k = 0)) ∧ Below w.heap.size w w'
theorem retOpt_no {o : Option Nat} {w w' : World} (h : o = none) (hb : Below w.heap.size w w') : RetOpt o w (.returned (.tuple #[.int .u64 0, .bool false])) w' := ⟨0, false, rfl, ⟨h, fun _ => rfl⟩, hb⟩
/-- where the last opening bracket stands -/
def lastOpen : List UInt8 → Option Nat
  | [] => none
  | c :: r => match lastOpen r with
    | some i => some (i + 1)
    | none => if c = 123 then some 0 else none
theorem lastOpen_none : ∀ (l : List UInt8), (∀ j, j < l.length → l.getD j 0 ≠ 123) → lastOpen l = none
  | [], _ => rfl
  | c :: r, h => by
    have hr := lastOpen_none r (fun j hj => by have := h (j + 1) (by simpa using hj); simpa [List.getD] using this)
    have hc := h 0 (by simp)
    rw [lastOpen, hr]
    simp only
    rw [if_neg (by simpa [List.getD] using hc)]
theorem lastOpen_some : ∀ (l : List UInt8) (i : Nat), i < l.length → l.getD i 0 = 123 → (∀ j, i < j → j < l.length → l.getD j 0 ≠ 123) → lastOpen l = some i
  | [], i, h, _, _ => by simp at h
  | c :: r, 0, _, hc, h => by
    have hr := lastOpen_none r (fun j hj => by have := h (j + 1) (by omega) (by simpa using hj); simpa [List.getD] using this)
    rw [lastOpen, hr]
    simp only
    rw [if_pos (by simpa [List.getD] using hc)]
  | c :: r, i + 1, hi, hc, h => by
    have hr := lastOpen_some r i (by simpa using hi) (by simpa [List.getD] using hc) (fun j hj hl => by have := h (j + 1) (by omega) (by simpa using hl); simpa [List.getD] using this)
    rw [lastOpen, hr]
/-- the literal's number with which a part ends -/
def awL (l : List UInt8) : Option Nat :=
  if l.getLastD 0 = 125 then match lastOpen l with
    | some i => numL ((l.drop (i + 1)).take (l.length - 1 - (i + 1)))
    | none => none
  else none
theorem getD_at (s : ByteArray) (i : Nat) (h : i < s.size) : s.data.toList.getD i 0 = s[i] := by
  have := drop_cons s i h
  have e : s.data.toList.getD i 0 = (s.data.toList.drop i).headD 0 := by
    rw [List.headD_eq_head?_getD, List.head?_drop]; rfl
  rw [e, this]; rfl
theorem last_at (s : ByteArray) (h : 0 < s.size) : s.data.toList.getLastD 0 = s[s.size - 1]'(by omega) := by
  have h1 := take_snoc s (s.size - 1) (by omega)
  rw [show s.size - 1 + 1 = s.size from by omega, take_all] at h1
  generalize s.data.toList.take (s.size - 1) = r at h1
  rw [h1]; simp
theorem suffix_one (l : List UInt8) (c : UInt8) : Lib.hasSuffix l [c] = (l.getLast? == some c) := by
  rcases List.eq_nil_or_concat l with rfl | ⟨r, d, rfl⟩
  · simp [Lib.hasSuffix]
  · rw [List.concat_eq_append, List.getLast?_concat, Lib.hasSuffix, Bool.eq_iff_iff, List.isSuffixOf_iff_suffix, beq_iff_eq]
    constructor
    · rintro ⟨x, hx⟩
      have := (List.append_inj' hx rfl).2
      simpa using this.symm
    · intro h
      exact ⟨r, by rw [Option.some.inj h]⟩
theorem getLast_of (l : List UInt8) : (l.getLast? == some 125) = decide (l.getLastD 0 = 125) := by
  rcases List.eq_nil_or_concat l with rfl | ⟨r, d, rfl⟩
  · simp
  · rw [List.concat_eq_append, List.getLast?_concat, Bool.eq_iff_iff]; simp
theorem hasClose_any (s : ByteArray) (hs : s.size ≤ 140737488351232) (w : World) :
    Calls Tryd.prog 23 #[.string s, .string ⟨#[125]⟩] w fun e w' => e = .returned (.bool (decide (s.data.toList.getLastD 0 = 125))) ∧ w = w' :=
  (Tryd.strings_HasSuffix s ⟨#[125]⟩ w (by omega)).mono fun _ _ ⟨he, hw⟩ => ⟨by rw [he, toList_mk (l := [125]), suffix_one, getLast_of], hw.symm⟩
theorem data_at (s : ByteArray) (j : Nat) (h : j < s.size) : s.data[j]! = s.data.toList.getD j 0 := by
  have h' : j < s.data.size := h
  rw [getElem!_pos s.data j h', List.getD, Array.getElem?_toList, Array.getElem?_eq_getElem h']; rfl
/-- where the last opening bracket stands, as the library tells it -/
theorem lastOpen_any (s : ByteArray) (hs : s.size ≤ 140737488351232) (w : World) :
    Calls Tryd.prog 27 #[.string s, .int .u8 123] w fun e w' => ∃ r : Int, e = .returned (.int .i64 r) ∧ ((lastOpen s.data.toList = none ∧ r = -1) ∨ ∃ i : Nat, i < s.size ∧ lastOpen s.data.toList = some i ∧ s.data.toList.getD i 0 = 123 ∧ r = i) ∧ w = w' := by
  refine (Tryd.strings_LastIndexByte s 123 (by omega) w).mono fun _ _ ⟨he, hw⟩ => ⟨_, he, ?_, hw.symm⟩
  have bz : ∀ c : UInt8, (c.toNat : Int) = 123 → c = 123 := fun c h => byte_ext h
  have bn : ∀ c : UInt8, (c.toNat : Int) ≠ 123 → c ≠ 123 := fun c h e => h (by rw [e]; rfl)
  rcases Lib.lastIndexByte_spec s 123 with ⟨h1, h2⟩ | ⟨i, hi, h1, h2, h3⟩
  · exact .inl ⟨lastOpen_none _ (fun j hj => bn _ (by rw [← data_at s j hj]; exact h2 j hj)), h1⟩
  · have hc : s.data.toList.getD i 0 = 123 := bz _ (by rw [← data_at s i hi]; exact h2)
    exact .inr ⟨i, hi, lastOpen_some _ i hi hc (fun j h4 h5 => bn _ (by rw [← data_at s j h5]; exact h3 j h4 h5)), hc, h1⟩
theorem retOpt_num {l : List UInt8} {o : Option Nat} {w0 w' : World} {k : Nat} {ok : Bool} (h : Hid (numL l = (if ok then some k else none) ∧ (ok = false → k = 0))) (ho : o = numL l) (hb : Below w0.heap.size w0 w') : RetOpt o w0 (.returned (.tuple #[.int .u64 k, .bool ok])) w' := ⟨k, ok, rfl, ⟨ho.trans h.out.1, h.out.2⟩, hb⟩
set_option maxHeartbeats 2000000 in
theorem awaited_any (s : ByteArray) (hs : s.size ≤ 140737488351232) (w : World) (ht : Tab w) (he : Errs w) :
    Calls Tryd.prog 24 #[.string s] w (RetOpt (awL s.data.toList) w) := by
  go_enter Tryd.func24, Tryd.ntmps24
  go_wp2_with fail
  refine (lastOpen_any s hs w).mono ?_
  rintro e w' ⟨r, rfl, hor, rfl⟩
  rcases hor with ⟨ho, rfl⟩ | ⟨i, hi, ho, hc, rfl⟩
  · have hn : Hid (awL s.data.toList = none) := by show _ = _; rw [awL, ho]; split <;> rfl
    clear ho
    go_wp2_with fail
    go_ret2
    exact retOpt_no hn.out (Below.refl _ _)
  · by_cases hl : s.data.toList.getLastD 0 = 125
    · have hi2 : i + 2 ≤ s.size := by
        rcases Nat.lt_or_ge (i + 1) s.size with h | h
        · exact h
        · have : i = s.size - 1 := by omega
          rw [last_at s (by omega)] at hl
          rw [getD_at s i hi] at hc
          subst this
          rw [hc] at hl; exact absurd hl (by decide)
      have hv : Hid (awL s.data.toList = numL (s.extract (i + 1) (s.size - 1)).data.toList) := by
        show _ = _
        rw [awL, if_pos hl, ho, ext_list, ← size_len]
      have hd : decide (s.data.toList.getLastD 0 = 125) = true := decide_eq_true hl
      have hsz : (s.extract (i + 1) (s.size - 1)).size ≤ 140737488351232 := by
        rw [size_len, ext_list, List.length_take]; omega
      replace hd := Lib.hid hd
      clear hl ho hc
      go_wp2_with fail
      refine (hasClose_any s hs w).mono ?_
      rintro e w' ⟨rfl, rfl⟩
      rw [hd.out]
      go_wp2_with fail
      refine (number_any _ hsz w ht he).mono ?_
      rintro e w1 ⟨k, ok, rfl, hk, hb⟩
      go_wp2_with fail
      go_ret2
      exact retOpt_num hk hv.out hb
    · have hn : Hid (awL s.data.toList = none) := by show _ = _; rw [awL, if_neg hl]
      have hd : decide (s.data.toList.getLastD 0 = 125) = false := decide_eq_false hl
      replace hd := Lib.hid hd
      clear hl ho hc
      go_wp2_with fail
      refine (hasClose_any s hs w).mono ?_
      rintro e w' ⟨rfl, rfl⟩
      rw [hd.out]
      go_wp2_with fail
      go_ret2
      exact retOpt_no hn.out (Below.refl _ _)

theorem awL_short (s : ByteArray) (h : s.size < 3) : awL s.data.toList = none := by
  rw [size_len] at h
  match s.data.toList, h with
  | [], _ => rfl
  | [c], _ =>
    by_cases hc : c = 125
    · subst hc; rfl
    · simp [awL, hc]
  | [b, c], _ =>
    rw [awL]
    split
    · split
      · rename_i i hi
        rw [show ([b, c].drop (i + 1)).take ([b, c].length - 1 - (i + 1)) = [] from by simp]
        exact numL_nil
      · rfl
    · rfl
  | _ :: _ :: _ :: _, h => simp at h; omega
set_option maxHeartbeats 2000000 in
theorem refAwaited_any (s : ByteArray) (hs : s.size ≤ 140737488351232) (w : World) :
    Calls Tryd.prog 22 #[.string s] w (RetOpt (awL s.data.toList) w) := by
  by_cases h3 : s.size < 3
  · have hn := Lib.hid (awL_short s h3)
    go_enter Tryd.func22, Tryd.ntmps22
    go_wp2_with fail
    go_ret2
    exact retOpt_no hn.out (Below.refl _ _)
  have hpos : 0 < s.size := by omega
  cases hl : (((s[s.size - 1]'(by omega)).toNat : Int) != 125)
  case true =>
    have hn : Hid (awL s.data.toList = none) := by
      show _ = _
      rw [awL, last_at s hpos, if_neg]
      intro e; rw [e] at hl; exact absurd hl (by decide)
    go_enter Tryd.func22, Tryd.ntmps22
    go_wp2_with fail
    go_ret2
    exact retOpt_no hn.out (Below.refl _ _)
  have hla : Hid (s.data.toList.getLastD 0 = 125) := by
    show _ = _
    rw [last_at s hpos]
    have : (((s[s.size - 1]'(by omega)).toNat : Int) == 125) = true := by rw [bne] at hl; simpa using hl
    exact byte_ext (eq_of_beq this)
  go_enter Tryd.func22, Tryd.ntmps22
  go_wp2_with fail
  clear hl
  go_loop [4] (fun vi => ∃ (j : Int), vi = .int .i64 j ∧ -1 ≤ j ∧ j + 2 ≤ s.size ∧ Hid (∀ i : Nat, j < i → i < s.size → s.data.toList.getD i 0 ≠ 123)) (fun vi => (intOf vi + 1).toNat)
  case atStart => exact ⟨_, rfl, by omega, by omega, fun i h1 h2 => by
    have : i = s.size - 1 := by omega
    subst this
    rw [getD_at s _ (by omega), ← last_at s hpos, hla.out]; decide⟩
  case round =>
    obtain ⟨j, rfl, hj1, hj2, hno⟩ := hrel
    by_cases hneg : j < 0
    · have hn : Hid (awL s.data.toList = none) := by
        show _ = _
        rw [awL, lastOpen_none _ (fun i hi => hno.out i (by omega) hi)]; split <;> rfl
      go_wp2_with fail
      go_ret2
      exact retOpt_no hn.out (Below.refl _ _)
    · obtain ⟨i, rfl⟩ : ∃ i : Nat, j = i := ⟨j.toNat, by omega⟩
      have hi : i < s.size := by omega
      cases hc : ((s[i].toNat : Int) == 123)
      · go_wp2_with fail
        exact ⟨⟨_, rfl, by omega, by omega, fun k h1 h2 => by
          by_cases hk : k = i
          · subst hk
            rw [getD_at s k hi]
            intro e; rw [e] at hc; exact absurd hc (by decide)
          · exact hno.out k (by omega) h2⟩, by simp [intOf] <;> omega⟩
      · have hv : Hid (awL s.data.toList = numL (s.extract (i + 1) (s.size - 1)).data.toList) := by
          show _ = _
          have hcc : s.data.toList.getD i 0 = 123 := by rw [getD_at s i hi]; exact byte_ext (eq_of_beq hc)
          rw [awL, if_pos hla.out, lastOpen_some _ i hi hcc (fun k h1 h2 => hno.out k (by omega) h2), ext_list, ← size_len]
        have hsz : (s.extract (i + 1) (s.size - 1)).size ≤ 140737488351232 := by
          rw [size_len, ext_list, List.length_take]; omega
        go_wp2_with fail
        refine (refNumber_any _ hsz w).mono ?_
        rintro e w1 ⟨k, ok, rfl, hk, hb⟩
        go_wp2_with fail
        go_ret2
        exact retOpt_num hk hv.out hb
end Go.Proofs.YtkocnldkimjonaaDoor
