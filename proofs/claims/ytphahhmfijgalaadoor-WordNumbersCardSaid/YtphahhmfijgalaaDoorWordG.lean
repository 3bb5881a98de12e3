/- 'Form', of the program and of the document: the shortest way to say a text; new memory alone is written. -/
import Derived.Test.YtphahhmfijgalaaDoorWordF
namespace Go.Proofs.YtphahhmfijgalaaDoor
open Go.RowKit

theorem upperS_any (s : ByteArray) (hs : s.size ≤ maxLen) (w : World) : Calls Tryd.prog 20 #[.string s] w (RetStr (upL s.data.toList) w) :=
  (upper_any s hs w).mono fun _ _ ⟨he, hb⟩ => ⟨_, he, rfl, hb⟩
theorem refUpperS_any (s : ByteArray) (hs : s.size ≤ maxLen) (w : World) : Calls Tryd.prog 23 #[.string s] w (RetStr (upL s.data.toList) w) :=
  (refUpper_any s hs w).mono fun _ _ ⟨he, hb⟩ => ⟨_, he, rfl, hb⟩
/-- 'Quote' hands back a text and a bool -/
def RetQuote (l : List UInt8) (w : World) (e : Ending) (w' : World) : Prop := ∃ u : ByteArray, e = .returned (.tuple #[.string u, .bool (quoteOk l)]) ∧ Hid (u.data.toList = quoteL l) ∧ Below w.heap.size w w'
theorem quoteS_any (s : ByteArray) (hs : s.size ≤ maxLen) (w : World) : Calls Tryd.prog 9 #[.string s] w (RetQuote s.data.toList w) :=
  (quote_any s hs w).mono fun _ _ ⟨he, hb⟩ => ⟨_, he, rfl, hb⟩
theorem refQuoteS_any (s : ByteArray) (hs : s.size ≤ maxLen) (w : World) : Calls Tryd.prog 10 #[.string s] w (RetQuote s.data.toList w) :=
  (refQuote_any s hs w).mono fun _ _ ⟨he, hb⟩ => ⟨_, he, rfl, hb⟩

def formIs (l : List UInt8) : Bool := allS atomB l && (decide (l.length ≤ 512) && !(upL l == [78, 73, 76]))
def formL (l : List UInt8) : List UInt8 := if formIs l then l else if quoteOk l then quoteL l else litL l
theorem form_no (l : List UInt8) (h : formIs l = false) : formL l = if quoteOk l then quoteL l else litL l := by rw [formL, h]; rfl
set_option maxHeartbeats 2000000 in
theorem form_any (s : ByteArray) (hs : s.size ≤ 140737488355328) (w : World) (ht : Tab w) :
    Calls Tryd.prog 18 #[.string s] w (RetStr (formL s.data.toList) w) := by
  cases ha : allS atomB s.data.toList
  case' true => by_cases hsz : s.size ≤ 512
  case' pos =>
    go_enter Tryd.func18, Tryd.ntmps18
    go_wp2_with fail
    refine (atom_any s (by unfold maxLen; omega) w).mono ?_
    rintro e w' ⟨rfl, rfl⟩
    rw [ha]
    go_wp2_with fail
    refine (upperS_any s (by unfold maxLen; omega) w).mono ?_
    rintro e w1 ⟨u, rfl, hu, hbw⟩
    cases hn : (u.toList == [78, 73, 76])
    case' false =>
      have hf : Hid (formL s.data.toList = s.data.toList) := by
        show _ = _
        rw [ByteArray.toList_eq, hu.out] at hn
        rw [formL, formIs, ha, ← size_len, decide_eq_true hsz, hn]; rfl
      go_wp2_with fail
      go_ret
      exact ⟨_, rfl, hf.out.symm, hbw⟩
    have hf : Hid (formL s.data.toList = if quoteOk s.data.toList then quoteL s.data.toList else litL s.data.toList) := by
      rw [ByteArray.toList_eq, hu.out] at hn
      exact form_no _ (by rw [formIs, ha, hn]; simp)
    clear hu ha
    go_wp2_with fail
  case' neg =>
    have hf := Lib.hid (form_no s.data.toList (by rw [formIs, ← size_len, decide_eq_false hsz]; simp))
    have hbw := Below.refl w.heap.size w
    go_enter Tryd.func18, Tryd.ntmps18
    go_wp2_with fail
    refine (atom_any s (by unfold maxLen; omega) w).mono ?_
    rintro e w' ⟨rfl, rfl⟩
    rw [ha]
    clear ha
    go_wp2_with fail
  case' false =>
    have hf := Lib.hid (form_no s.data.toList (by rw [formIs, ha]; rfl))
    have hbw := Below.refl w.heap.size w
    go_enter Tryd.func18, Tryd.ntmps18
    go_wp2_with fail
    refine (atom_any s (by unfold maxLen; omega) w).mono ?_
    rintro e w' ⟨rfl, rfl⟩
    rw [ha]
    clear ha
    go_wp2_with fail
  all_goals
    refine (quoteS_any s (by unfold maxLen; omega) _).mono ?_
    rintro e w2 ⟨q, rfl, hq, hb2⟩
    have hbw2 := below_mono hbw hbw.size hb2
    cases hk : quoteOk s.data.toList
    · go_wp2_with fail
      refine (literal_any s hs _ (ht.later hbw2)).mono ?_
      rintro e w3 ⟨q3, rfl, hq3, hb3⟩
      go_wp2_with fail
      go_ret
      exact ⟨_, rfl, hq3.out.trans (by rw [hf.out, hk]; rfl), below_mono hbw2 hbw2.size hb3⟩
    · go_wp2_with fail
      go_ret
      exact ⟨_, rfl, hq.out.trans (by rw [hf.out, hk]; rfl), hbw2⟩
set_option maxHeartbeats 2000000 in
theorem refForm_any (s : ByteArray) (hs : s.size ≤ 140737488355328) (w : World) :
    Calls Tryd.prog 19 #[.string s] w (RetStr (formL s.data.toList) w) := by
  cases ha : allS atomB s.data.toList
  case' true => by_cases hsz : s.size ≤ 512
  case' pos =>
    go_enter Tryd.func19, Tryd.ntmps19
    go_wp2_with fail
    refine (refAtom_any s (by unfold maxLen; omega) w).mono ?_
    rintro e w' ⟨rfl, rfl⟩
    rw [ha]
    go_wp2_with fail
    refine (refUpperS_any s (by unfold maxLen; omega) w).mono ?_
    rintro e w1 ⟨u, rfl, hu, hbw⟩
    cases hn : (u.toList == [78, 73, 76])
    case' false =>
      have hf : Hid (formL s.data.toList = s.data.toList) := by
        show _ = _
        rw [ByteArray.toList_eq, hu.out] at hn
        rw [formL, formIs, ha, ← size_len, decide_eq_true hsz, hn]; rfl
      go_wp2_with fail
      go_ret
      exact ⟨_, rfl, hf.out.symm, hbw⟩
    have hf : Hid (formL s.data.toList = if quoteOk s.data.toList then quoteL s.data.toList else litL s.data.toList) := by
      rw [ByteArray.toList_eq, hu.out] at hn
      exact form_no _ (by rw [formIs, ha, hn]; simp)
    clear hu ha
    go_wp2_with fail
  case' neg =>
    have hf := Lib.hid (form_no s.data.toList (by rw [formIs, ← size_len, decide_eq_false hsz]; simp))
    have hbw := Below.refl w.heap.size w
    go_enter Tryd.func19, Tryd.ntmps19
    go_wp2_with fail
    refine (refAtom_any s (by unfold maxLen; omega) w).mono ?_
    rintro e w' ⟨rfl, rfl⟩
    rw [ha]
    clear ha
    go_wp2_with fail
  case' false =>
    have hf := Lib.hid (form_no s.data.toList (by rw [formIs, ha]; rfl))
    have hbw := Below.refl w.heap.size w
    go_enter Tryd.func19, Tryd.ntmps19
    go_wp2_with fail
    refine (refAtom_any s (by unfold maxLen; omega) w).mono ?_
    rintro e w' ⟨rfl, rfl⟩
    rw [ha]
    clear ha
    go_wp2_with fail
  all_goals
    refine (refQuoteS_any s (by unfold maxLen; omega) _).mono ?_
    rintro e w2 ⟨q, rfl, hq, hb2⟩
    have hbw2 := below_mono hbw hbw.size hb2
    cases hk : quoteOk s.data.toList
    · go_wp2_with fail
      refine (refLiteral_any s hs _ ).mono ?_
      rintro e w3 ⟨q3, rfl, hq3, hb3⟩
      go_wp2_with fail
      go_ret
      exact ⟨_, rfl, hq3.out.trans (by rw [hf.out, hk]; rfl), below_mono hbw2 hbw2.size hb3⟩
    · go_wp2_with fail
      go_ret
      exact ⟨_, rfl, hq.out.trans (by rw [hf.out, hk]; rfl), hbw2⟩
end Go.Proofs.YtphahhmfijgalaaDoor
