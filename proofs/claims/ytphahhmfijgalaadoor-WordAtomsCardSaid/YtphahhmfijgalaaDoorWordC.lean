/- 'Quote', of the program and of the document: a text in marks; new memory alone is written. -/
import Derived.Test.YtphahhmfijgalaaDoorWordB
namespace Go.Proofs.YtphahhmfijgalaaDoor
open Go.RowKit

theorem info5 : (Tryd.prog.info? 5).map (fun i => (i.zero, i.size, i.bytes)) = some (some (.int .u8 0), 1, 1) := by kernel_rfl
/-- a byte, a backslash ahead of a mark or a backslash -/
def esc1 (c : UInt8) : List UInt8 := if (c.toNat : Int) == 34 || (c.toNat : Int) == 92 then [92, c] else [c]
def escL (l : List UInt8) : List UInt8 := l.flatMap esc1
theorem escL_snoc (l : List UInt8) (c : UInt8) : escL (l ++ [c]) = escL l ++ esc1 c := by simp [escL]
theorem escL_len (l : List UInt8) : (escL l).length ≤ 2 * l.length := by
  induction l with
  | nil => simp [escL]
  | cons c l ih =>
    have : (esc1 c).length ≤ 2 := by unfold esc1; split <;> simp
    simp [escL] at ih ⊢; omega
def quoteOk (l : List UInt8) : Bool := decide (l.length ≤ 512) && allB quot l
def quoteL (l : List UInt8) : List UInt8 := if quoteOk l then 34 :: (escL l ++ [34]) else []
def quoteV (l : List UInt8) : Value := .tuple #[.string ⟨(quoteL l).toArray⟩, .bool (quoteOk l)]
theorem quoteV_no {l : List UInt8} (h : quoteOk l = false) : quoteV l = .tuple #[.string ⟨#[]⟩, .bool false] := by
  simp [quoteV, quoteL, h]
theorem ret_quote_no {l : List UInt8} (h : quoteOk l = false) : Ending.returned (.tuple #[.string ⟨#[]⟩, .bool false]) = .returned (quoteV l) := by rw [quoteV_no h]
theorem quoteV_yes {l : List UInt8} (h : quoteOk l = true) {s : ByteArray} (hs : s.data.toList = 34 :: (escL l ++ [34])) : Value.tuple #[.string s, .bool true] = quoteV l := by
  rw [quoteV, h, quoteL, h, if_pos rfl, str_eq hs]

theorem esc_step1 (s : ByteArray) (k : Nat) (h : k < s.size) (h1 : ((s[k].toNat : Int) == 34) = false) (h2 : ((s[k].toNat : Int) == 92) = false) : escL (s.data.toList.take (k + 1)) = escL (s.data.toList.take k) ++ [s[k]] := by
  rw [take_snoc s k h, escL_snoc, esc1, if_neg (by simp only [h1, h2]; simp)]
theorem esc_step2 (s : ByteArray) (k : Nat) (h : k < s.size) (ht : ((s[k].toNat : Int) == 34) = true ∨ ((s[k].toNat : Int) == 92) = true) : escL (s.data.toList.take (k + 1)) = escL (s.data.toList.take k) ++ [92, s[k]] := by
  rw [take_snoc s k h, escL_snoc, esc1, if_pos (by rw [Bool.or_eq_true]; exact ht)]
theorem ret_quote_yes {l : List UInt8} (h : quoteOk l = true) {s : ByteArray} (hs : s.data.toList = 34 :: (escL l ++ [34])) : Ending.returned (.tuple #[.string s, .bool true]) = .returned (quoteV l) := by rw [quoteV_yes h hs]
theorem quote_step2 (s o : ByteArray) (k : Nat) (h : k < s.size) (hp : Hid (o.data.toList = 34 :: escL (s.data.toList.take k))) (ht : ((s[k].toNat : Int) == 34) = true ∨ ((s[k].toNat : Int) == 92) = true) :
    Hid ((o ++ ⟨#[92]⟩ ++ s.extract k (k + 1)).data.toList = 34 :: escL (s.data.toList.take (k + 1))) := by
  show _ = _
  rw [toList_app, toList_app, hp.out, ext_one s k h, take_snoc s k h, escL_snoc, esc1, if_pos (by rw [Bool.or_eq_true]; exact ht)]
  simp
theorem quote_step1 (s o : ByteArray) (k : Nat) (h : k < s.size) (hp : Hid (o.data.toList = 34 :: escL (s.data.toList.take k))) (h1 : ((s[k].toNat : Int) == 34) = false) (h2 : ((s[k].toNat : Int) == 92) = false) :
    Hid ((o ++ s.extract k (k + 1)).data.toList = 34 :: escL (s.data.toList.take (k + 1))) := by
  show _ = _
  rw [toList_app, hp.out, ext_one s k h, take_snoc s k h, escL_snoc, esc1, if_neg (by simp only [h1, h2]; simp)]
  simp
theorem quote_size2 {s o : ByteArray} {k : Nat} (h : k < s.size) (ho : o.size ≤ 1 + 2 * k) : (o ++ ⟨#[92]⟩ ++ s.extract k (k + 1)).size ≤ 1 + 2 * (k + 1) := by
  have : (s.extract k (k + 1)).size = 1 := by rw [size_len, ext_one s k h]; rfl
  rw [ByteArray.size_append, ByteArray.size_append, this]; show o.size + 1 + 1 ≤ _; omega
theorem quote_size1 {s o : ByteArray} {k : Nat} (h : k < s.size) (ho : o.size ≤ 1 + 2 * k) : (o ++ s.extract k (k + 1)).size ≤ 1 + 2 * (k + 1) := by
  have : (s.extract k (k + 1)).size = 1 := by rw [size_len, ext_one s k h]; rfl
  rw [ByteArray.size_append, this]; omega
theorem quot_step {p : Int → Bool} (s : ByteArray) (k : Nat) (h : k < s.size) (hq : Hid (allB p (s.data.toList.take k) = true)) (hc : p s[k].toNat = true) : Hid (allB p (s.data.toList.take (k + 1)) = true) := by
  show _ = _
  rw [take_snoc s k h, allB_snoc, hq.out, hc]; rfl
theorem quoteOk_yes (s : ByteArray) (h : s.size ≤ 512) (hq : allB quot s.data.toList = true) : quoteOk s.data.toList = true := by
  rw [quoteOk, hq, ← size_len, decide_eq_true h]; rfl
set_option maxHeartbeats 1000000 in
theorem refQuote_any (s : ByteArray) (hs : s.size ≤ maxLen) (w : World) :
    Calls Tryd.prog 10 #[.string s] w fun e w' => e = .returned (quoteV s.data.toList) ∧ Below w.heap.size w w' := by
  unfold maxLen at hs
  by_cases hbig : 512 < s.size
  · have hq : quoteOk s.data.toList = false := by rw [quoteOk, ← size_len, decide_eq_false (by omega)]; rfl
    rw [quoteV_no hq]
    go_enter Tryd.func10, Tryd.ntmps10
    go_wp2_with fail
    go_ret2
    exact ⟨rfl, Below.refl _ _⟩
  · go_enter Tryd.func10, Tryd.ntmps10
    go_wp2_with fail
    go_loop [4, 5] (fun v i => ∃ (k : Nat) (o : ByteArray), k ≤ s.size ∧ o.size ≤ 1 + 2 * k ∧ i = .int .i64 k ∧ v = .string o ∧ Hid (o.data.toList = 34 :: escL (s.data.toList.take k)) ∧ Hid (allB quot (s.data.toList.take k) = true)) (fun _ i => s.size - (intOf i).toNat)
    case atStart => exact ⟨0, _, Nat.zero_le _, Nat.le_refl _, rfl, rfl, rfl, rfl⟩
    case round =>
      obtain ⟨k, o, hk, ho, rfl, rfl, hp, hq⟩ := hrel
      by_cases hlt : k < s.size
      · go_wp2_with fail
        refine (refQuotable_any _ _).mono ?_
        rintro e w' ⟨rfl, rfl⟩
        cases hc : quot ↑s[k].toNat
        · go_wp2_with fail
          go_ret2
          exact ⟨ret_quote_no (by rw [quoteOk, allB_false quot s k hlt hc, Bool.and_false]), Below.refl _ _⟩
        · go_wp2_with fail
          · exact ⟨⟨k + 1, _, by omega, quote_size2 hlt ho, by go_num, rfl, quote_step2 s o k hlt hp (.inl (by simpa using ‹_ = (34 : Int)›)), quot_step s k hlt hq hc⟩, by simp [intOf]; omega⟩
          · exact ⟨⟨k + 1, _, by omega, quote_size2 hlt ho, by go_num, rfl, quote_step2 s o k hlt hp (by assumption), quot_step s k hlt hq hc⟩, by simp [intOf]; omega⟩
          · rename_i hh
            exact ⟨⟨k + 1, _, by omega, quote_size1 hlt ho, by go_num, rfl, quote_step1 s o k hlt hp hh.1 hh.2, quot_step s k hlt hq hc⟩, by simp [intOf]; omega⟩
      · obtain rfl : k = s.size := by omega
        go_wp2_with fail
        go_ret2
        rw [take_all] at hp hq
        exact ⟨ret_quote_yes (quoteOk_yes s (by omega) hq.out) (by rw [toList_app, hp.out]; rfl), Below.refl _ _⟩

set_option maxHeartbeats 1000000 in
theorem quote_any (s : ByteArray) (hs : s.size ≤ maxLen) (w : World) :
    Calls Tryd.prog 9 #[.string s] w fun e w' => e = .returned (quoteV s.data.toList) ∧ Below w.heap.size w w' := by
  unfold maxLen at hs
  by_cases hbig : 512 < s.size
  · have hq : quoteOk s.data.toList = false := by rw [quoteOk, ← size_len, decide_eq_false (by omega)]; rfl
    rw [quoteV_no hq]
    go_enter Tryd.func9, Tryd.ntmps9
    go_wp2_with fail
    go_ret2
    exact ⟨rfl, Below.refl _ _⟩
  · have h1 : decide ((512 : Int) < (s.size : Int)) = false := by simp; omega
    cases he : s.toList.isEmpty
    case' false =>
      go_enter Tryd.func9, Tryd.ntmps9
      go_wp2_with fail
      refine (all_any _ _ asks_quot _ (by unfold maxLen; omega) _).mono ?_
      rintro e w' ⟨rfl, rfl⟩
      cases hq : allS quot s.data.toList
      · go_wp2_with fail
        go_ret2
        have hq0 : quoteOk s.data.toList = false := by
          rw [ByteArray.toList_eq] at he
          rw [allS, he] at hq
          rw [quoteOk]; simpa using fun _ => by simpa using hq
        exact ⟨ret_quote_no hq0, Below.refl _ _⟩
      have hok : Hid (quoteOk s.data.toList = true) := quoteOk_yes s (by omega) (by rw [allS, Bool.and_eq_true] at hq; exact hq.1)
      clear hq
      go_wp2_with fail
    case' true =>
      have hok : Hid (quoteOk s.data.toList = true) := quoteOk_yes s (by omega) (by rw [ByteArray.toList_eq] at he; rw [List.isEmpty_iff] at he; rw [he]; rfl)
      go_enter Tryd.func9, Tryd.ntmps9
      go_wp2_with fail
    all_goals
      go_loopw [4, 21] (fun v i wr => ∃ (k : Nat), k ≤ s.size ∧ i = .int .i64 k ∧ OwnBytes wr w.heap.size 5 v (34 :: escL (s.data.toList.take k)) ∧ Below w.heap.size w wr) (fun _ i _ => s.size - (intOf i).toNat)
      case atStart => exact ⟨0, Nat.zero_le _, rfl, OwnBytes.one _ _ _ _ rfl, (Below.refl _ _).alloc (Nat.le_refl _) _⟩
      case round =>
        obtain ⟨k, hk, rfl, ho, hb⟩ := hrel
        have hl : (escL (s.data.toList.take k)).length ≤ 2 * 512 := Nat.le_trans (escL_len _) (by rw [List.length_take, ← size_len]; omega)
        have hsz := hb.size
        by_cases hlt : k < s.size
        · cases hx : ((s[k].toNat : Int) == 34)
          case' false => cases hy : ((s[k].toNat : Int) == 92)
          case' false.false =>
            go_wp2_with (at_builtin; refine wpList_append_byte rfl (.tmp 37) (.tmp 41) 31 rfl w.heap.size 5 Tryd.underlying31 info5 _ _ wr.heap.size _ s[k] rfl rfl (ho.alloc _) (cell_new1 _ _ _) rfl (by simp only [List.length_cons]; omega) (by simp; omega) ?_)
            intro v1 w1 ho1 hg1
            have hb1 := below_grown (hb.alloc hsz _) hg1 (by simp; omega) (ho.alloc _)
            have e1 := Lib.hid (esc_step1 s k hlt hx hy)
            go_wp2_with fail
            exact ⟨⟨k + 1, by omega, by go_num, by rw [e1.out]; exact ho1, hb1⟩, by simp [intOf]; omega⟩
          all_goals
            go_wp2_with (at_builtin; refine wpList_append_byte rfl (.tmp 34) (.tmp 35) 31 rfl w.heap.size 5 Tryd.underlying31 info5 _ _ wr.heap.size _ 92 rfl rfl (ho.alloc _) (cell_new1 _ _ _) rfl (by simp only [List.length_cons]; omega) (by simp; omega) ?_)
            intro v1 w1 ho1 hg1
            have hb1 := below_grown (hb.alloc hsz _) hg1 (by simp; omega) (ho.alloc _)
            have hsz1 := hb1.size
            go_wp2_with (at_builtin; refine wpList_append_byte rfl (.tmp 37) (.tmp 41) 31 rfl w.heap.size 5 Tryd.underlying31 info5 _ _ w1.heap.size _ s[k] rfl rfl (ho1.alloc _) (cell_new1 _ _ _) rfl (by simp only [List.length_cons, List.length_append, List.length_nil]; omega) (by simp; omega) ?_)
            intro v2 w2 ho2 hg2
            have hb2 := below_grown (hb1.alloc hsz1 _) hg2 (by simp; omega) (ho1.alloc _)
            have e1 := Lib.hid (esc_step2 s k hlt (by first | exact .inl hx | exact .inr hy))
            go_wp2_with fail
            exact ⟨⟨k + 1, by omega, by go_num, by rw [e1.out]; simpa using ho2, hb2⟩, by simp [intOf]; omega⟩
        · obtain rfl : k = s.size := by omega
          rw [take_all] at ho hl
          go_wp2_with (at_builtin; refine wpList_append_byte rfl (.tmp 44) (.tmp 45) 31 rfl w.heap.size 5 Tryd.underlying31 info5 _ _ wr.heap.size _ 34 rfl rfl (ho.alloc _) (cell_new1 _ _ _) rfl (by simp only [List.length_cons]; omega) (by simp; omega) ?_)
          intro v1 w1 ho1 hg1
          have hb1 := below_grown (hb.alloc hsz _) hg1 (by simp; omega) (ho.alloc _)
          have kb := ho1.back (P := Tryd.prog) 31 9 Tryd.underlying31 Tryd.underlying5 Tryd.underlying9
          go_wp2_with fail
          go_ret2
          exact ⟨ret_quote_yes hok.out (by simp), hb1⟩
end Go.Proofs.YtphahhmfijgalaaDoor
