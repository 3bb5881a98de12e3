/- 'Unquote', of the program and of the document: the quoted text with which a text begins; new memory alone is written. -/
import Derived.Test.YtphahhmfijgalaaDoorWordC
namespace Go.Proofs.YtphahhmfijgalaaDoor
open Go.RowKit

/-- behind i bytes, of which acc was read: what is read of the rest -/
def unqGo : List UInt8 → List UInt8 → Nat → Option (List UInt8 × Nat)
  | [], _, _ => none
  | c :: r, acc, i =>
    if 512 < acc.length then none
    else if ((c.toNat : Int) == 34) = true then some (acc, i + 1)
    else if ((c.toNat : Int) == 92) = true then
      match r with
      | [] => none
      | d :: r' => if ((d.toNat : Int) == 34) = true ∨ ((d.toNat : Int) == 92) = true then unqGo r' (acc ++ [d]) (i + 2) else none
    else if quot c.toNat then unqGo r (acc ++ [c]) (i + 1) else none
theorem unqGo_cons (c : UInt8) (r acc : List UInt8) (i : Nat) : unqGo (c :: r) acc i =
    if 512 < acc.length then none
    else if ((c.toNat : Int) == 34) = true then some (acc, i + 1)
    else if ((c.toNat : Int) == 92) = true then
      match r with
      | [] => none
      | d :: r' => if ((d.toNat : Int) == 34) = true ∨ ((d.toNat : Int) == 92) = true then unqGo r' (acc ++ [d]) (i + 2) else none
    else if quot c.toNat then unqGo r (acc ++ [c]) (i + 1) else none := by
  cases r <;> simp only [unqGo]
def unqL : List UInt8 → Option (List UInt8 × Nat)
  | [] => none
  | c :: r => if ((c.toNat : Int) == 34) = true then unqGo r [] 1 else none
def unqV : Option (List UInt8 × Nat) → Value
  | some (t, n) => .tuple #[.string ⟨t.toArray⟩, .int .i64 (n : Int), .bool true]
  | none => .tuple #[.string ⟨#[]⟩, .int .i64 0, .bool false]
theorem ret_unq_no {o : Option (List UInt8 × Nat)} (h : o = none) : Ending.returned (.tuple #[.string ⟨#[]⟩, .int .i64 0, .bool false]) = .returned (unqV o) := by rw [h]; rfl
theorem ret_unq_yes {o : Option (List UInt8 × Nat)} {s : ByteArray} {t : List UInt8} {n : Nat} {i : Int} (h : o = some (t, n)) (hs : s.data.toList = t) (hi : i = n) : Ending.returned (.tuple #[.string s, .int .i64 i, .bool true]) = .returned (unqV o) := by
  subst hs; subst hi; rw [h]; rfl

section
variable (s : ByteArray) (acc : List UInt8) (k : Nat)
theorem unq_end (h : s.size ≤ k) : unqGo (s.data.toList.drop k) acc k = none := by rw [drop_all s h]; rfl
theorem unq_full (l : List UInt8) (h : 512 < acc.length) : unqGo l acc k = none := by
  cases l with
  | nil => rfl
  | cons c r => rw [unqGo_cons, if_pos h]
theorem unq_mark (h : k < s.size) (hf : acc.length ≤ 512) (h1 : ((s[k].toNat : Int) == 34) = true) : unqGo (s.data.toList.drop k) acc k = some (acc, k + 1) := by
  rw [drop_cons s k h, unqGo_cons, if_neg (by omega), if_pos h1]
theorem unq_bad (h : k < s.size) (hf : acc.length ≤ 512) (h1 : ((s[k].toNat : Int) == 34) = false) (h2 : ((s[k].toNat : Int) == 92) = false) (hq : quot s[k].toNat = false) : unqGo (s.data.toList.drop k) acc k = none := by
  rw [drop_cons s k h, unqGo_cons, if_neg (by omega), if_neg (by simp only [h1]; simp), if_neg (by simp only [h2]; simp), if_neg (by simp only [hq]; simp)]
theorem unq_plain (h : k < s.size) (hf : acc.length ≤ 512) (h1 : ((s[k].toNat : Int) == 34) = false) (h2 : ((s[k].toNat : Int) == 92) = false) (hq : quot s[k].toNat = true) : unqGo (s.data.toList.drop k) acc k = unqGo (s.data.toList.drop (k + 1)) (acc ++ [s[k]]) (k + 1) := by
  rw [drop_cons s k h, unqGo_cons, if_neg (by omega), if_neg (by simp only [h1]; simp), if_neg (by simp only [h2]; simp), if_pos hq]
theorem unq_esc_end (h : k < s.size) (hf : acc.length ≤ 512) (h1 : ((s[k].toNat : Int) == 34) = false) (h2 : ((s[k].toNat : Int) == 92) = true) (he : s.size ≤ k + 1) : unqGo (s.data.toList.drop k) acc k = none := by
  rw [drop_cons s k h, drop_all s he, unqGo_cons, if_neg (by omega), if_neg (by simp only [h1]; simp), if_pos h2]
theorem unq_esc_bad (h : k + 1 < s.size) (hf : acc.length ≤ 512) (h1 : ((s[k].toNat : Int) == 34) = false) (h2 : ((s[k].toNat : Int) == 92) = true) (h3 : ((s[k + 1].toNat : Int) == 34) = false) (h4 : ((s[k + 1].toNat : Int) == 92) = false) : unqGo (s.data.toList.drop k) acc k = none := by
  rw [drop_cons s k (by omega), drop_cons s (k + 1) h, unqGo_cons, if_neg (by omega), if_neg (by simp only [h1]; simp), if_pos h2]
  simp only [h3, h4]; simp
theorem unq_esc (h : k + 1 < s.size) (hf : acc.length ≤ 512) (h1 : ((s[k].toNat : Int) == 34) = false) (h2 : ((s[k].toNat : Int) == 92) = true) (h3 : ((s[k + 1].toNat : Int) == 34) = true ∨ ((s[k + 1].toNat : Int) == 92) = true) : unqGo (s.data.toList.drop k) acc k = unqGo (s.data.toList.drop (k + 2)) (acc ++ [s[k + 1]]) (k + 2) := by
  rw [drop_cons s k (by omega), drop_cons s (k + 1) h, unqGo_cons, if_neg (by omega), if_neg (by simp only [h1]; simp), if_pos h2]
  simp only [h3, if_true]
theorem unq_bad' (h : k < s.size) (h1 : ((s[k].toNat : Int) == 34) = false) (h2 : ((s[k].toNat : Int) == 92) = false) (hq : quot s[k].toNat = false) : unqGo (s.data.toList.drop k) acc k = none := by
  by_cases hf : acc.length ≤ 512
  · exact unq_bad s acc k h hf h1 h2 hq
  · exact unq_full acc k _ (by omega)
theorem unq_esc_end' (h : k < s.size) (h1 : ((s[k].toNat : Int) == 34) = false) (h2 : ((s[k].toNat : Int) == 92) = true) (he : s.size ≤ k + 1) : unqGo (s.data.toList.drop k) acc k = none := by
  by_cases hf : acc.length ≤ 512
  · exact unq_esc_end s acc k h hf h1 h2 he
  · exact unq_full acc k _ (by omega)
theorem unq_esc_bad' (h : k + 1 < s.size) (h1 : ((s[k].toNat : Int) == 34) = false) (h2 : ((s[k].toNat : Int) == 92) = true) (h3 : ((s[k + 1].toNat : Int) == 34) = false) (h4 : ((s[k + 1].toNat : Int) == 92) = false) : unqGo (s.data.toList.drop k) acc k = none := by
  by_cases hf : acc.length ≤ 512
  · exact unq_esc_bad s acc k h hf h1 h2 h3 h4
  · exact unq_full acc k _ (by omega)
end
theorem quot_34 (c : UInt8) (h : quot c.toNat = false) : ((c.toNat : Int) == 34) = false ∧ ((c.toNat : Int) == 92) = false := by
  constructor
  · cases hx : ((c.toNat : Int) == 34) with
    | false => rfl
    | true => rw [eq_of_beq hx] at h; exact absurd h (by decide)
  · cases hx : ((c.toNat : Int) == 92) with
    | false => rfl
    | true => rw [eq_of_beq hx] at h; exact absurd h (by decide)

theorem quot_esc (c : UInt8) (h : ((c.toNat : Int) == 34) = true ∨ ((c.toNat : Int) == 92) = true) : quot c.toNat = true := by
  rcases h with h | h <;> rw [eq_of_beq h] <;> decide
theorem bne_t {a b : Int} (h : (a == b) = false) : (a != b) = true := by simp only [bne, h]; rfl
theorem bne_f {a b : Int} (h : (a == b) = true) : (a != b) = false := by simp only [bne, h]; rfl
theorem unqL_mark (s : ByteArray) (h : 0 < s.size) (h0 : ((s[0].toNat : Int) == 34) = true) : unqL s.data.toList = unqGo (s.data.toList.drop 1) [] 1 := by
  have := drop_cons s 0 h
  rw [List.drop_zero] at this
  generalize hl : s.data.toList.drop (0 + 1) = r at this
  rw [this, unqL, if_pos h0]
theorem unqL_no (s : ByteArray) (h : 0 < s.size) (h0 : ((s[0].toNat : Int) == 34) = false) : unqL s.data.toList = none := by
  have := drop_cons s 0 h
  rw [List.drop_zero] at this
  rw [this, unqL, if_neg (by simp only [h0]; simp)]
theorem unqL_short (s : ByteArray) (h : s.size < 2) : unqL s.data.toList = none := by
  rw [size_len] at h
  match hl : s.data.toList, h with
  | [], _ => rfl
  | [c], _ => simp [unqL, unqGo]
  | _ :: _ :: _, h => simp at h; omega

set_option maxHeartbeats 2000000 in
theorem refUnquote_any (s : ByteArray) (hs : s.size ≤ maxLen) (w : World) :
    Calls Tryd.prog 12 #[.string s] w fun e w' => e = .returned (unqV (unqL s.data.toList)) ∧ Below w.heap.size w w' := by
  unfold maxLen at hs
  have kb := run_conv_one (P := Tryd.prog) 31 9 5 Tryd.underlying31 Tryd.underlying5 Tryd.underlying9
  by_cases h2 : s.size < 2
  · go_enter Tryd.func12, Tryd.ntmps12
    go_wp2_with fail
    go_ret3
    exact ⟨ret_unq_no (unqL_short s h2), Below.refl _ _⟩
  cases h0 : ((s[0].toNat : Int) == 34)
  · have h0' := bne_t h0
    go_enter Tryd.func12, Tryd.ntmps12
    go_wp2_with fail
    go_ret3
    exact ⟨ret_unq_no (unqL_no s (by omega) h0), Below.refl _ _⟩
  · have h0' := bne_f h0
    have hst := Lib.hid (unqL_mark s (by omega) h0)
    go_enter Tryd.func12, Tryd.ntmps12
    go_wp2_with fail
    clear h0 h0'
    go_loopw [5, 6] (fun v i wr => ∃ (k : Nat) (o : ByteArray), k ≤ s.size ∧ o.size < k ∧ i = .int .i64 k ∧ v = .string o ∧ Hid (unqL s.data.toList = unqGo (s.data.toList.drop k) o.data.toList k) ∧ Below w.heap.size w wr) (fun _ i _ => s.size - (intOf i).toNat)
    case atStart => exact ⟨1, ⟨#[]⟩, by omega, Nat.zero_lt_one, rfl, rfl, hst, Below.refl _ _⟩
    case round =>
      obtain ⟨k, o, hk, ho, rfl, rfl, hp, hb⟩ := hrel
      clear hst
      by_cases hlt : k < s.size
      · cases h1 : ((s[k].toNat : Int) == 34)
        · cases h3 : ((s[k].toNat : Int) == 92)
          · go_wp2_with fail
            refine (refQuotable_any _ _).mono ?_
            rintro e w' ⟨rfl, rfl⟩
            cases hq : quot ↑s[k].toNat
            · go_wp2_with fail
              go_ret3
              exact ⟨ret_unq_no (hp.out.trans (unq_bad' s _ k hlt h1 h3 hq)), hb⟩
            · by_cases hf : o.size ≤ 512
              · go_wp2_with fail
                exact ⟨⟨k + 1, _, by omega, by rw [ByteArray.size_append]; show o.size + 1 < _; omega, by go_num, rfl, by rw [toList_app]; exact hp.out.trans (unq_plain s _ k hlt hf h1 h3 hq), hb.alloc hb.size _⟩, by simp [intOf]; omega⟩
              · go_wp2_with fail
                go_ret3
                exact ⟨ret_unq_no (by rw [hp.out]; exact unq_full _ _ _ (by rw [← size_len]; omega)), hb⟩
          · by_cases hn : k + 1 < s.size
            · cases h4 : ((s[k + 1].toNat : Int) == 34)
              case' true =>
                have hh : Hid (((s[k + 1].toNat : Int) == 34) = true ∨ ((s[k + 1].toNat : Int) == 92) = true) := .inl h4
                have h4' := bne_f h4
              case' false => cases h5 : ((s[k + 1].toNat : Int) == 92)
              case' false.true =>
                have hh : Hid (((s[k + 1].toNat : Int) == 34) = true ∨ ((s[k + 1].toNat : Int) == 92) = true) := .inr h5
                have h4' := bne_t h4
                have h5' := bne_f h5
              case' false.false =>
                have h4' := bne_t h4
                have h5' := bne_t h5
                go_wp2_with fail
                go_ret3
                exact ⟨ret_unq_no (hp.out.trans (unq_esc_bad' s _ k hn h1 h3 h4 h5)), hb⟩
              all_goals
                have hq := Lib.hid (quot_esc _ hh.out)
                go_wp2_with fail
                refine (refQuotable_any _ _).mono ?_
                rintro e w' ⟨rfl, rfl⟩
                rw [hq.out]
                by_cases hf : o.size ≤ 512
                · go_wp2_with fail
                  exact ⟨⟨k + 2, _, by omega, by rw [ByteArray.size_append]; show o.size + 1 < _; omega, by go_num, rfl, by rw [toList_app]; exact hp.out.trans (unq_esc s _ k hn hf h1 h3 hh.out), hb.alloc hb.size _⟩, by simp [intOf]; omega⟩
                · go_wp2_with fail
                  go_ret3
                  exact ⟨ret_unq_no (by rw [hp.out]; exact unq_full _ _ _ (by rw [← size_len]; omega)), hb⟩
            · go_wp2_with fail
              go_ret3
              exact ⟨ret_unq_no (hp.out.trans (unq_esc_end' s _ k hlt h1 h3 (by omega))), hb⟩
        · by_cases hf : o.size ≤ 512
          · go_wp2_with fail
            go_ret3
            exact ⟨ret_unq_yes (hp.out.trans (unq_mark s _ k hlt hf h1)) rfl (by omega), hb⟩
          · go_wp2_with fail
            go_ret3
            exact ⟨ret_unq_no (by rw [hp.out]; exact unq_full _ _ _ (by rw [← size_len]; omega)), hb⟩
      · go_wp2_with fail
        go_ret3
        exact ⟨ret_unq_no (by rw [hp.out]; exact unq_end s _ k (by omega)), hb⟩
end Go.Proofs.YtphahhmfijgalaaDoor
