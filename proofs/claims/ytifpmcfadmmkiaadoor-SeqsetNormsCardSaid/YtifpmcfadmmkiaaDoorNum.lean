/- What a text is read as: strconv.ParseUint at 63 bits, 'Number' of the program and of the document. The walk of internal/strconv.ParseUint is turned from the kit's own at 32 and 64 bits. -/
import Derived.Test.YtifpmcfadmmkiaaDoorDig
import Derived.Test.YtifpmcfadmmkiaaDoorNumP
import Derived.Test.YtifpmcfadmmkiaaDoorShelfN
import Derived.Lib.Strings
import Derived.Laws.Strings3
import Derived.Laws.Closers25
import Derived.Laws.Closers25b
import Derived.BigCall
import Derived.BigGuard
namespace Go.Proofs.YtifpmcfadmmkiaaDoor
open Go.RowKit

/-- what internal/strconv.ParseUint(s, 10, 63) hands back -/
def puV : Option (Option Nat) → Value
  | some (some u) => .tuple #[.int .u64 (u : Int), .nilIface]
  | some none => .tuple #[.int .u64 9223372036854775807, .iface 116 (.int .i64 1)]
  | none => .tuple #[.int .u64 0, .iface 116 (.int .i64 2)]
set_option maxHeartbeats 32000000 in
set_option maxRecDepth 100000 in
theorem parseUint63 (t : ByteArray) (hne : t.size ≠ 0) (hmax : t.size ≤ 9223372036854775806) (w : World) :
    Calls Tryd.prog 77 #[.string t, .int .i64 10, .int .i64 63] w fun e w' => e = .returned (puV (pu 0 t.data.toList)) ∧ w' = Lib.bytesWorld w 5 t := by
  have hemp : t.toList.isEmpty = false := by
    rw [empty_iff]; simpa using hne
  have hcv := Lib.run_convert_string_bytes (P := Tryd.prog) w 9 59 5 t (u := .string) Tryd.underlying9 Tryd.underlying59 Tryd.underlying5
  have hB : ∀ j, j < t.size → (Lib.bytesWorld w 5 t).cell? ⟨w.heap.size, j, none⟩ = some (.int .u8 (t.data.toList.getD j 0).toNat) := fun j hj => Lib.bytesWorld_cell w 5 t j hj
  obtain ⟨W1, hW1⟩ : ∃ W1, W1 = Lib.bytesWorld w 5 t := ⟨_, rfl⟩
  rw [← hW1] at hcv hB ⊢
  clear hW1
  obtain ⟨bs, hL⟩ : ∃ bs, bs = t.data.toList := ⟨_, rfl⟩
  have hLn : bs.length = t.size := by rw [hL]; rfl
  rw [← hL] at hB ⊢
  clear hL
  have hmv : IntKind.u64.wrap (IntKind.u64.wrap 9223372036854775808 - 1) = 9223372036854775807 := by
    rw [IntKind.wrap_u64, IntKind.wrap_u64]
    decide
  go_enter Tryd.func77, Tryd.ntmps77
  go_wp2
  go_loop [12, 13, 101] (fun vu vn vi => ∃ (k acc : Nat) (a : Int), vu = .bool false ∧ vn = .int .u64 a ∧ vi = .int .i64 k ∧ k ≤ t.size ∧ Hid (a = (acc : Int) ∧ acc ≤ 9223372036854775807 ∧ pu 0 bs = pu acc (bs.drop k)))
    (fun _ _ vi => t.size - (intOf vi).toNat)
  case atStart => exact ⟨0, 0, 0, rfl, rfl, rfl, by omega, rfl, by omega, rfl⟩
  case round =>
    obtain ⟨k, acc, a, rfl, rfl, rfl, hk, hh⟩ := hrel
    obtain ⟨ha, hacc, hdec⟩ := hh.out
    clear hh
    have a0 : 0 ≤ a := by omega
    have a1 : a ≤ 9223372036854775807 := by omega
    by_cases hkn : k < t.size
    · have hc := hB k hkn
      have hdrop : bs.drop k = bs[k]'(by omega) :: bs.drop (k + 1) := List.drop_eq_getElem_cons (by omega)
      have hget : bs.getD k 0 = bs[k]'(by omega) := by simp [List.getD, List.getElem?_eq_getElem (show k < bs.length by omega)]
      rw [hdrop] at hdec
      rw [hget] at hc
      generalize bs[k]'(by omega) = c at hc hdec
      have hc256 : c.toNat < 256 := c.toNat_lt
      clear hB hdrop hget
      by_cases hdig : 48 ≤ c.toNat ∧ c.toNat ≤ 57
      · obtain ⟨hd0, hd1⟩ := hdig
        have hd : isDig c = true := by simp [isDig, hd0, hd1]
        by_cases hcut : 1844674407370955162 ≤ acc
        · have hF : pu acc (c :: bs.drop (k + 1)) = some none := pu_big acc c _ hd (by unfold mxN; omega)
          rw [hF] at hdec
          have icut : 1844674407370955162 ≤ a := by omega
          clear hcut hacc hF ha hd
          go_wp2
          go_ret2
          first | exact ⟨rfl, rfl⟩ | exact ⟨by rw [hdec]; rfl, rfl⟩
        · by_cases hov : 9223372036854775807 < acc * 10 + (c.toNat - 48)
          · have hF : pu acc (c :: bs.drop (k + 1)) = some none := pu_big acc c _ hd hov
            rw [hF] at hdec
            by_cases hov2 : 18446744073709551616 ≤ acc * 10 + (c.toNat - 48)
            · have icut : a < 1844674407370955162 := by omega
              have iov : 18446744073709551616 ≤ a * 10 + ((c.toNat : Int) - 48) := by omega
              have hwr : IntKind.u64.wrap (a * 10 + ((c.toNat : Int) - 48)) = a * 10 + ((c.toNat : Int) - 48) - 18446744073709551616 := by
                rw [IntKind.wrap_u64]
                omega
              clear hcut hacc hF hov hov2 ha hd
              go_wp2
              go_ret2
              first | exact ⟨rfl, rfl⟩ | exact ⟨by rw [hdec]; rfl, rfl⟩
            · have icut : a < 1844674407370955162 := by omega
              have iov : 9223372036854775807 < a * 10 + ((c.toNat : Int) - 48) := by omega
              have iov2 : a * 10 + ((c.toNat : Int) - 48) < 18446744073709551616 := by omega
              clear hcut hacc hF hov hov2 ha hd
              go_wp2
              go_ret2
              first | exact ⟨rfl, rfl⟩ | exact ⟨by rw [hdec]; rfl, rfl⟩
          · have hF : pu acc (c :: bs.drop (k + 1)) = pu (acc * 10 + (c.toNat - 48)) (bs.drop (k + 1)) := pu_dig acc c _ hd hov
            have HN : Hid (a * 10 + ((c.toNat : Int) - 48) = ((acc * 10 + (c.toNat - 48) : Nat) : Int) ∧ acc * 10 + (c.toNat - 48) ≤ 9223372036854775807 ∧ pu 0 bs = pu (acc * 10 + (c.toNat - 48)) (bs.drop (k + 1))) := Lib.hid ⟨by omega, by omega, hdec.trans hF⟩
            have icut : a < 1844674407370955162 := by omega
            have iov : a * 10 + ((c.toNat : Int) - 48) ≤ 9223372036854775807 := by omega
            clear hcut hacc hF hov hdec ha hd
            go_wp2
            refine ⟨⟨k + 1, acc * 10 + (c.toNat - 48), a * 10 + ((c.toNat : Int) - 48), rfl, (by first | rfl | (congr 1; omega)), (by first | rfl | (congr 1; omega)), by omega, HN⟩, by simp [intOf]; omega⟩
      · have hd : isDig c = false := by simp [isDig]; omega
        have hF : pu acc (c :: bs.drop (k + 1)) = none := pu_no acc c _ hd
        rw [hF] at hdec
        clear hacc hF ha hd
        have hv0 := bits_lo_u8 .or (c.toNat : Int) 32
        have hv1 := bits_hi_u8 .or (c.toNat : Int) 32
        have hu0 := bits_lo_u8 .or 95 32
        have hu1 := bits_hi_u8 .or 95 32
        go_wp2_with (go_at_call 92; refine (Tryd.internal_strconv_lower _ _).mono ?_; rintro e w' ⟨rfl, rfl⟩)
        all_goals go_ret2
        all_goals first | exact ⟨rfl, rfl⟩ | exact ⟨by rw [hdec]; rfl, rfl⟩
    · have hkk : k = t.size := by omega
      subst hkk
      have hF : pu acc (bs.drop t.size) = some (some acc) := by rw [List.drop_eq_nil_of_le (by omega)]; rfl
      rw [hF] at hdec
      subst ha
      clear hacc hF a0 a1
      go_wp2
      go_ret2
      first | exact ⟨rfl, rfl⟩ | exact ⟨by rw [hdec]; rfl, rfl⟩

/-- the two errors of strconv's lie as values of their interface -/
def Errs (w : World) : Prop := (∃ te pe, w.cell? ⟨4, 0, none⟩ = some (.iface te pe)) ∧ (∃ te pe, w.cell? ⟨5, 0, none⟩ = some (.iface te pe))
theorem Errs.later {w w' : World} (h : Errs w) (hb : Below w.heap.size w w') : Errs w' := by
  obtain ⟨⟨t1, p1, h1⟩, t2, p2, h2⟩ := h
  exact ⟨⟨t1, p1, (hb.cell (World.block_lt_of_cell? w _ h1)).trans h1⟩, t2, p2, (hb.cell (World.block_lt_of_cell? w _ h2)).trans h2⟩

/-- what strconv.ParseUint(s, 10, 63) hands back -/
def RetPU (l : List UInt8) (w : World) (e : Ending) (w' : World) : Prop :=
  ∃ (x : Int) (er : Value), e = .returned (.tuple #[.int .u64 x, er]) ∧ ((∃ u : Nat, l ≠ [] ∧ pu 0 l = some (some u) ∧ x = u ∧ er = .nilIface) ∨ ((∀ u, l ≠ [] → pu 0 l ≠ some (some u)) ∧ ∃ t p, er = .iface t p)) ∧ Below w.heap.size w w'
set_option maxHeartbeats 4000000 in
theorem parseUint_ok (s : ByteArray) (hs : s.size ≤ 140737488351232) (hne : s.size ≠ 0) (u : Nat) (hp : pu 0 s.data.toList = some (some u)) (w : World) :
    Calls Tryd.prog 55 #[.string s, .int .i64 10, .int .i64 63] w (RetPU s.data.toList w) := by
  have hq : Hid (s.data.toList ≠ [] ∧ pu 0 s.data.toList = some (some u)) := ⟨fun h => hne (by rw [size_len, h]; rfl), hp⟩
  have hI := parseUint63 s hne (by omega) w
  rw [hp] at hI
  have hI : Calls Tryd.prog 77 #[.string s, .int .i64 10, .int .i64 63] w fun e w' => e = .returned (.tuple #[.int .u64 (u : Int), .nilIface]) ∧ w' = Lib.bytesWorld w 5 s := hI
  replace hI := Lib.hid hI
  clear hp
  go_enter Tryd.func55, Tryd.ntmps55
  go_wp2_with fail
  refine hI.out.mono ?_
  rintro e w' ⟨rfl, rfl⟩
  go_wp2_with fail
  go_ret2
  exact ⟨_, _, rfl, .inl ⟨u, hq.out.1, hq.out.2, rfl, rfl⟩, below_conv _ _ _⟩
set_option maxHeartbeats 4000000 in
theorem parseUint_bad (s : ByteArray) (hs : s.size ≤ 140737488351232) (hne : s.size ≠ 0) (h : ∀ u, pu 0 s.data.toList ≠ some (some u)) (w : World) (he : Errs w) :
    Calls Tryd.prog 55 #[.string s, .int .i64 10, .int .i64 63] w (RetPU s.data.toList w) := by
  have hq : Hid (∀ u, s.data.toList ≠ [] → pu 0 s.data.toList ≠ some (some u)) := fun u _ => h u
  have hI := parseUint63 s hne (by omega) w
  cases hp : pu 0 s.data.toList with
  | none =>
    rw [hp] at hI
    have hI : Calls Tryd.prog 77 #[.string s, .int .i64 10, .int .i64 63] w fun e w' => e = .returned (.tuple #[.int .u64 0, .iface 116 (.int .i64 2)]) ∧ w' = Lib.bytesWorld w 5 s := hI
    replace hI := Lib.hid hI
    have hb := below_conv w 5 s
    obtain ⟨⟨t1, p1, h1⟩, _⟩ := he.later hb
    replace h1 := Lib.hid h1
    clear hp h he
    go_enter Tryd.func55, Tryd.ntmps55
    go_wp2_with fail
    refine hI.out.mono ?_
    rintro e w' ⟨rfl, rfl⟩
    go_wp2_with fail
    refine (Tryd.strconv_toError_syntax _ s _ _ _ _ (by omega) h1.out (.inr ⟨_, _, rfl⟩)).mono ?_
    rintro e w2 ⟨N, rfl, _, _, hb2⟩
    have hbb := below_mono hb hb.size hb2
    go_wp2_with fail
    go_ret2
    exact ⟨_, _, rfl, .inr ⟨hq.out, _, _, rfl⟩, hbb⟩
  | some o =>
    cases o with
    | some u => exact absurd hp (h u)
    | none =>
      rw [hp] at hI
      have hI : Calls Tryd.prog 77 #[.string s, .int .i64 10, .int .i64 63] w fun e w' => e = .returned (.tuple #[.int .u64 9223372036854775807, .iface 116 (.int .i64 1)]) ∧ w' = Lib.bytesWorld w 5 s := hI
      replace hI := Lib.hid hI
      have hb := below_conv w 5 s
      obtain ⟨_, t1, p1, h1⟩ := he.later hb
      replace h1 := Lib.hid h1
      clear hp h he
      go_enter Tryd.func55, Tryd.ntmps55
      go_wp2_with fail
      refine hI.out.mono ?_
      rintro e w' ⟨rfl, rfl⟩
      go_wp2_with fail
      refine (Tryd.strconv_toError_range _ s _ _ _ _ (by omega) h1.out (.inr ⟨_, _, rfl⟩)).mono ?_
      rintro e w2 ⟨N, rfl, _, _, hb2⟩
      have hbb := below_mono hb hb.size hb2
      go_wp2_with fail
      go_ret2
      exact ⟨_, _, rfl, .inr ⟨hq.out, _, _, rfl⟩, hbb⟩
set_option maxHeartbeats 4000000 in
theorem parseUint_empty (s : ByteArray) (hz : s.size = 0) (w : World) (he : Errs w) :
    Calls Tryd.prog 55 #[.string s, .int .i64 10, .int .i64 63] w (RetPU s.data.toList w) := by
  have hs : s = ⟨#[]⟩ := by
    apply ByteArray.ext
    exact Array.eq_empty_of_size_eq_zero hz
  subst hs
  have hI := Tryd.internal_strconv_ParseUint_empty 10 63 w
  have hI : Calls Tryd.prog 77 #[.string ⟨#[]⟩, .int .i64 10, .int .i64 63] w fun e w' => e = .returned (.tuple #[.int .u64 0, .iface 116 (.int .i64 2)]) ∧ w' = w := hI
  replace hI := Lib.hid hI
  obtain ⟨⟨t1, p1, h1⟩, _⟩ := he
  replace h1 := Lib.hid h1
  clear hz
  go_enter Tryd.func55, Tryd.ntmps55
  go_wp2_with fail
  refine hI.out.mono ?_
  rintro e w' ⟨rfl, rfl⟩
  go_wp2_with fail
  refine (Tryd.strconv_toError_syntax _ _ _ _ _ _ (by decide) h1.out (.inr ⟨_, _, rfl⟩)).mono ?_
  rintro e w2 ⟨N, rfl, _, _, hb2⟩
  go_wp2_with fail
  go_ret2
  exact ⟨_, _, rfl, .inr ⟨fun _ h => absurd rfl h, _, _, rfl⟩, hb2⟩
theorem parseUint_any (s : ByteArray) (hs : s.size ≤ 140737488351232) (w : World) (he : Errs w) :
    Calls Tryd.prog 55 #[.string s, .int .i64 10, .int .i64 63] w (RetPU s.data.toList w) := by
  by_cases hz : s.size = 0
  · exact parseUint_empty s hz w he
  · by_cases h : ∃ u, pu 0 s.data.toList = some (some u)
    · obtain ⟨u, hu⟩ := h; exact parseUint_ok s hs hz u hu w
    · exact parseUint_bad s hs hz (fun u hu => h ⟨u, hu⟩) w he

/-- 'Number' hands back a number and a bool -/
def RetNum (l : List UInt8) (w : World) (e : Ending) (w' : World) : Prop := ∃ (k : Nat) (ok : Bool), e = .returned (.tuple #[.int .u64 k, .bool ok]) ∧ Hid (numL l = (if ok then some k else none) ∧ (ok = false → k = 0)) ∧ Below w.heap.size w w'
theorem retNum_no {l : List UInt8} {w w' : World} (h : numL l = none) (hb : Below w.heap.size w w') : RetNum l w (.returned (.tuple #[.int .u64 0, .bool false])) w' := ⟨0, false, rfl, ⟨h, fun _ => rfl⟩, hb⟩
theorem retNum_yes {l : List UInt8} {w w' : World} {k : Nat} {x : Int} (hx : x = k) (h : numL l = some k) (hb : Below w.heap.size w w') : RetNum l w (.returned (.tuple #[.int .u64 x, .bool true])) w' := ⟨k, true, by rw [hx], ⟨h, fun e => by cases e⟩, hb⟩
set_option maxHeartbeats 2000000 in
theorem number_any (s : ByteArray) (hs : s.size ≤ 140737488351232) (w : World) (ht : Tab w) (he : Errs w) :
    Calls Tryd.prog 43 #[.string s] w (RetNum s.data.toList w) := by
  go_enter Tryd.func43, Tryd.ntmps43
  go_wp2_with fail
  refine (parseUint_any s hs w he).mono ?_
  rintro e w1 ⟨x, er, rfl, hor, b1⟩
  rcases hor with ⟨u, hne, hp, rfl, rfl⟩ | ⟨hno, t, p, rfl⟩
  · have hu : Hid (u ≤ mxN) := ((pu_iff _ 0 u (by decide)).1 hp).2
    replace hp := Lib.hid hp
    clear hne
    go_wp2_with fail
    refine (digits_any u (by have := hu.out; unfold mxN at this; omega) _ (ht.later b1)).mono ?_
    rintro e w2 ⟨o, rfl, ho, b2⟩
    have b2 := below_mono b1 b1.size b2
    cases hd : (o.toList == s.toList)
    · have hd' : (o.toList != s.toList) = true := by rw [bne, hd]; rfl
      have hn : Hid (numL s.data.toList = none) := by
        show _ = _
        rw [ByteArray.toList_eq, ByteArray.toList_eq, ho.out] at hd
        rw [numL, hp.out]; simp only [hd]; rfl
      go_wp2_with fail
      go_ret2
      exact retNum_no hn.out b2
    · have hd' : (o.toList != s.toList) = false := by rw [bne, hd]; rfl
      have hn : Hid (numL s.data.toList = some u) := by
        show _ = _
        rw [ByteArray.toList_eq, ByteArray.toList_eq, ho.out] at hd
        rw [numL, hp.out]; simp only [hd]; rfl
      go_wp2_with fail
      go_ret2
      exact retNum_yes rfl hn.out b2
  · have hn : Hid (numL s.data.toList = none) := by
      show _ = _
      cases hn : numL s.data.toList with
      | none => rfl
      | some u =>
        obtain ⟨e, hu⟩ := (numL_iff _ u).1 hn
        have hp := (pu_iff s.data.toList 0 u (by decide)).2 ⟨by rw [← e]; exact dv_digits u, hu⟩
        exact absurd hp (hno u (by rw [← e]; exact digits_ne u))
    clear hno
    go_wp2_with fail
    go_ret2
    exact retNum_no hn.out b1

theorem pow_bd (k n : Nat) (h : n < 10 ^ k) (hk : k ≤ 18) : n ≤ 999999999999999999 := by
  have : 10 ^ k ≤ 10 ^ 18 := Nat.pow_le_pow_right (by omega) hk
  omega
theorem lead_of (s : ByteArray) (h : 0 < s.size) (ho : ((s[0].toNat : Int) == 48) = false ∨ s.size ≤ 1) : lead s.data.toList = true := by
  have hd := drop_cons s 0 h
  rw [List.drop_zero] at hd
  have hl := size_len s
  generalize s.data.toList.drop (0 + 1) = r at hd
  generalize s.data.toList = l at hd hl ⊢
  subst hd
  cases r with
  | nil => rfl
  | cons b r =>
    rcases ho with ho | ho
    · simp only [lead]
      rw [bne_iff_ne]
      intro e
      rw [e] at ho
      exact absurd ho (by decide)
    · rw [hl] at ho; simp at ho
theorem nought_ahead (s : ByteArray) (h : 1 < s.size) (h0 : ((s[0].toNat : Int) == 48) = true) : numL s.data.toList = none := by
  have hd := drop_cons s 0 (by omega)
  rw [List.drop_zero] at hd
  have hl := size_len s
  have hc : s[0] = 48 := byte_ext (eq_of_beq h0)
  rw [hc] at hd
  clear hc h0
  generalize s.data.toList.drop (0 + 1) = r at hd
  generalize s.data.toList = l at hd hl ⊢
  subst hd
  exact numL_nought r (fun e => by rw [e] at hl; rw [hl] at h; simp at h)
theorem isDig_bd (c : UInt8) (h : isDig c = true) : 48 ≤ c.toNat ∧ c.toNat ≤ 57 := by simpa [isDig] using h
theorem dv_round (n k : Nat) (c : UInt8) (h : n < 10 ^ k) (hd : isDig c = true) : n * 10 + (c.toNat - 48) < 10 ^ (k + 1) := by
  have := isDig_bd c hd
  rw [Nat.pow_succ]; omega
end Go.Proofs.YtifpmcfadmmkiaaDoor
