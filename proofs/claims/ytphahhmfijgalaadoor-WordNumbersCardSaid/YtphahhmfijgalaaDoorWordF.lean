/- 'Digits', of the program (over strconv.FormatUint) and of the document, and 'Literal', of both. -/
import Derived.Test.YtphahhmfijgalaaDoorWordE
import Derived.Lib.ItoaMem
import Derived.Lib.ItoaLen
import Derived.Lib.Walk
import Derived.Lib.AppendIntMem
namespace Go.Proofs.YtphahhmfijgalaaDoor
open Go.RowKit Go.Sort

/-- the table of powers of ten lies as the text lays it -/
def Tab (w : World) : Prop := Lib.TabIs Tryd.prog w "internal/strconv.uint64pow10" .u64 Lib.pow10Tab
theorem Tab.later {w w' : World} (h : Tab w) (hb : Below w.heap.size w w') : Tab w' := by
  unfold Tab Lib.TabIs at h ⊢
  unfold World.var? at h ⊢
  cases hg : Tryd.prog.globalNamed "internal/strconv.uint64pow10" with
  | none => simp [hg] at h
  | some g =>
    simp only [hg, Option.bind_some] at h ⊢
    have hlt : g < w.heap.size := by
      rcases Nat.lt_or_ge g w.heap.size with h' | h'
      · exact h'
      · simp [Array.getElem?_eq_none h'] at h
    rw [hb.block g hlt]; exact h
theorem below_grow (w : World) (k : Nat) (os : Array Obj) : Below w.heap.size w (grow (w.drewN k) os) :=
  ⟨rfl, rfl, rfl, by show w.heap.size ≤ (w.heap ++ os).size; rw [Array.size_append]; omega, fun i hi => by show (w.heap ++ os)[i]? = _; rw [Array.getElem?_append_left hi]⟩

/-- e returns a text whose bytes are l; of what was there nothing has turned -/
def RetStr (l : List UInt8) (w : World) (e : Ending) (w' : World) : Prop := ∃ u : ByteArray, e = .returned (.string u) ∧ Hid (u.data.toList = l) ∧ Below w.heap.size w w'

theorem itoa_any (n : Nat) (h : n ≤ maxLen) (w : World) (ht : Tab w) : Calls Tryd.prog 31 #[.int .i64 n] w (RetStr (Lib.decDigits n) w) :=
  (Tryd.strconv_Itoa n (by omega) (by unfold maxLen at h; omega) w ht).mono fun e w' ⟨he, k, os, hw⟩ => ⟨_, he, by rw [Lib.itoa_nonneg]; rfl, by subst hw; exact below_grow w k os⟩

theorem fin0 (w : World) (o : Obj) (dk : Array UInt8) (k : Nat) : Below w.heap.size w ((putRow (fun (b : UInt8) => Value.int .u8 (b.toNat : Int)) (w.alloc o) w.heap.size 0 dk).drewN k) := by
  rw [alloc_eq_grow]
  obtain ⟨os', _, e⟩ := putRow_grow_new (fun (b : UInt8) => Value.int .u8 (b.toNat : Int)) w #[o] w.heap.size 0 dk (Nat.le_refl _)
  rw [e]
  exact below_grow w k os'
set_option maxHeartbeats 1000000 in
set_option maxRecDepth 100000 in
theorem formatUint_inner (u : Nat) (hu64 : u < 18446744073709551616) (w : World) (ht : Tab w) :
    Calls Tryd.prog 43 #[.int .u64 u, .int .i64 10] w (RetStr (Lib.decDigits u) w) := by
  by_cases hs : u < 100
  · clear hu64
    go_enter Tryd.func43, Tryd.ntmps43
    go_wp2_with (go_at_call 52; refine (Tryd.internal_strconv_small u hs _).mono ?_; rintro e w' ⟨rfl, rfl⟩)
    go_ret
    exact ⟨_, rfl, rfl, Below.refl _ _⟩
  · have hu1 : 1 ≤ u := by omega
    have hnd20 : Lib.nDigits u ≤ 20 := Lib.nDigits_le20 u hu64
    have hal : Tryd.prog.arrayLen 57 = 24 := by simp [Program.arrayLen, Tryd.underlying57]
    have hsl1 : ∀ W, (Instr.sliceAt 57 (.pointer (some ⟨w.heap.size, 0, none⟩)) none (some (.int .i64 (Lib.nDigits u : Int))) none).run Tryd.prog W = .ok (.slice (some ⟨w.heap.size, 0, none⟩) (Lib.nDigits u) 24) W := fun W => by
      rw [run_sliceAt_array_h W 57 ⟨w.heap.size, 0, none⟩ (by simp [Program.arrayLen, Program.elem, Tryd.underlying57]) .i64 (Lib.nDigits u : Int) (by omega) (by rw [hal]; omega)]
      go_simp
    have hH0 := Lib.holds_zero0 w 57 (Lib.nDigits u) (by omega)
    have hfmt := Tryd.internal_strconv_formatBase10 w.heap.size 0 24 u (Array.replicate (Lib.nDigits u) 0) (w.alloc (.cells Lib.zeros24 57)) hH0 (by rw [Array.size_replicate]; exact Lib.lt_pow_nDigits u) hu64 (by rw [Array.size_replicate]; omega)
    rw [Array.size_replicate] at hfmt
    have HH0 := Lib.hid hH0
    have h64 := Lib.hid hu64
    clear hH0 hal hu64
    go_enter Tryd.func43, Tryd.ntmps43
    go_wp2_with (go_at_call 53; refine (Tryd.internal_strconv_numDigits u hu1 h64.out _ (Lib.tabIs_alloc ht _)).mono ?_; rintro e w' ⟨rfl, rfl⟩)
    go_at_call 54
    refine hfmt.mono ?_
    rintro e w' ⟨rfl, k, v', dk, rfl, hF⟩
    have hcv : (convert 31 9 (.slice (some ⟨w.heap.size, 0, none⟩) (Lib.nDigits u) 24)).run Tryd.prog ((putRow (fun (b : UInt8) => Value.int .u8 (b.toNat : Int)) (w.alloc (.cells Lib.zeros24 57)) w.heap.size 0 dk).drewN k) = .ok (.string ⟨(Lib.decDigits u).toArray⟩) ((putRow (fun (b : UInt8) => Value.int .u8 (b.toNat : Int)) (w.alloc (.cells Lib.zeros24 57)) w.heap.size 0 dk).drewN k) := by
      have h := run_convert_bytes_back (P := Tryd.prog) ((putRow (fun (b : UInt8) => Value.int .u8 (b.toNat : Int)) (w.alloc (.cells Lib.zeros24 57)) w.heap.size 0 dk).drewN k) 31 9 5 ⟨w.heap.size, 0, none⟩ 24 (Lib.decDigits u) Tryd.underlying31 Tryd.underlying5 Tryd.underlying9 (fun j hj => by
        rw [Lib.row_is_numeral hF j hj, Lib.add_plain, World.cell?_drewN]
        exact cell?_putRow (fun (b : UInt8) => Value.int .u8 (b.toNat : Int)) _ w.heap.size 0 _ dk HH0.out (by rw [hF.size, Array.size_replicate]) j (by rw [hF.size]; rw [Lib.decDigits_length] at hj; exact hj))
      rw [Lib.decDigits_length] at h
      exact h
    go_wp2
    go_ret
    exact ⟨_, rfl, rfl, fin0 w _ dk k⟩
theorem formatUint_any (u : Nat) (hu64 : u < 18446744073709551616) (w : World) (ht : Tab w) :
    Calls Tryd.prog 38 #[.int .u64 u, .int .i64 10] w (RetStr (Lib.decDigits u) w) := by
  go_enter Tryd.func38, Tryd.ntmps38
  go_wp2_with fail
  refine (formatUint_inner u hu64 w ht).mono ?_
  rintro e w' ⟨o, rfl, ho, hb⟩
  go_wp2_with fail
  go_ret
  exact ⟨_, rfl, ho, hb⟩
theorem digits_any (u : Nat) (hu64 : u < 18446744073709551616) (w : World) (ht : Tab w) :
    Calls Tryd.prog 26 #[.int .u64 u] w (RetStr (Lib.decDigits u) w) := by
  go_enter Tryd.func26, Tryd.ntmps26
  go_wp2_with fail
  refine (formatUint_any u hu64 w ht).mono ?_
  rintro e w' ⟨o, rfl, ho, hb⟩
  go_wp2_with fail
  go_ret
  exact ⟨_, rfl, ho, hb⟩

theorem byte_48 (m : Nat) : (⟨#[48 + UInt8.ofNat m]⟩ : ByteArray).data.toList = [UInt8.ofNat (48 + m)] := by
  show [48 + UInt8.ofNat m] = _
  rw [UInt8.ofNat_add]; rfl
theorem decDigits_step (u : Nat) (h : ¬ u < 10) : Lib.decDigits u = Lib.decDigits (u / 10) ++ [UInt8.ofNat (48 + u % 10)] := by rw [Lib.decDigits, dif_neg h]
set_option maxHeartbeats 1000000 in
theorem refDigits_any (u : Nat) (hu64 : u < 18446744073709551616) (w : World) :
    Calls Tryd.prog 27 #[.int .u64 u] w (RetStr (Lib.decDigits u) w) := by
  have hlen : (Lib.decDigits u).length ≤ 20 := by rw [Lib.decDigits_length]; exact Lib.nDigits_le20 u hu64
  have kb := run_conv_one (P := Tryd.prog) 31 9 5 Tryd.underlying31 Tryd.underlying5 Tryd.underlying9
  have h64 := Lib.hid hu64
  clear hu64
  go_enter Tryd.func27, Tryd.ntmps27
  go_wp2_with fail
  go_loopw [0, 3] (fun a v wr => ∃ (m : Nat) (o : ByteArray), a = .int .u64 m ∧ v = .string o ∧ o.size ≤ 20 ∧ Hid (m < 18446744073709551616) ∧ Hid (Lib.decDigits m ++ o.data.toList = Lib.decDigits u) ∧ Below w.heap.size w wr) (fun a _ _ => (intOf a).toNat)
  case atStart => exact ⟨u, ⟨#[]⟩, rfl, rfl, Nat.zero_le _, h64, List.append_nil _, Below.refl _ _⟩
  case round =>
    obtain ⟨m, o, rfl, rfl, ho, hm, hp, hb⟩ := hrel
    by_cases hlt : m < 10
    · go_wp2_with fail
      go_ret
      refine ⟨_, rfl, ?_, hb.alloc hb.size _⟩
      show _ = _
      rw [toList_app, ← hp.out, byte_48, Lib.decDigits_one hlt]
    · have hwr : IntKind.u64.wrap ((m : Int) / 10) = ((m / 10 : Nat) : Int) := by
        have := hm.out
        rw [IntKind.wrap_u64]; omega
      have hl1 : Lib.nDigits m + o.size ≤ 20 := by
        have := congrArg List.length hp.out
        rw [List.length_append, Lib.decDigits_length, ← size_len] at this
        omega
      have hl2 := Lib.nDigits_pos m
      have hp1 : Hid (Lib.decDigits (m / 10) ++ ((⟨#[48 + UInt8.ofNat (m % 10)]⟩ : ByteArray) ++ o).data.toList = Lib.decDigits u) := by
        show _ = _
        rw [toList_app, ← hp.out, decDigits_step m hlt, byte_48, List.append_assoc]
      go_wp2_with fail
      exact ⟨⟨m / 10, _, rfl, rfl, by rw [ByteArray.size_append]; show 1 + o.size ≤ 20; omega, by have := hm.out; show _ < _; omega, hp1, hb.alloc hb.size _⟩, by simp [intOf]; omega⟩

theorem below_mono {B : Nat} {a b c : World} (h : Below B a b) (hB : B ≤ b.heap.size) (k : Below b.heap.size b c) : Below B a c := h.trans (k.mono hB)
/-- a literal: its length and the bytes -/
def litL (l : List UInt8) : List UInt8 := 123 :: (Lib.decDigits l.length ++ ([125, 13, 10] ++ l))
set_option maxHeartbeats 1000000 in
theorem literal_any (s : ByteArray) (hs : s.size ≤ 140737488355328) (w : World) (ht : Tab w) :
    Calls Tryd.prog 14 #[.string s] w (RetStr (litL s.data.toList) w) := by
  have hlen : (Lib.decDigits s.size).length ≤ 20 := by rw [Lib.decDigits_length]; exact Lib.nDigits_le20 _ (by omega)
  go_enter Tryd.func14, Tryd.ntmps14
  go_wp2_with fail
  refine (itoa_any s.size (by unfold maxLen; omega) w ht).mono ?_
  rintro e w' ⟨o, rfl, ho, hb⟩
  have hol : o.size ≤ 20 := by rw [size_len, ho.out]; exact hlen
  go_wp2_with fail
  go_ret
  refine ⟨_, rfl, ?_, hb⟩
  show _ = _
  rw [toList_app, toList_app, toList_app, ho.out, litL, ← size_len]
  simp
set_option maxHeartbeats 1000000 in
theorem refLiteral_any (s : ByteArray) (hs : s.size ≤ 140737488355328) (w : World) :
    Calls Tryd.prog 15 #[.string s] w (RetStr (litL s.data.toList) w) := by
  have hlen : (Lib.decDigits s.size).length ≤ 20 := by rw [Lib.decDigits_length]; exact Lib.nDigits_le20 _ (by omega)
  have hwr : IntKind.u64.wrap (s.size : Int) = s.size := by rw [IntKind.wrap_u64]; omega
  go_enter Tryd.func15, Tryd.ntmps15
  go_wp2_with fail
  refine (refDigits_any s.size (by omega) w).mono ?_
  rintro e w' ⟨o, rfl, ho, hb⟩
  have hol : o.size ≤ 20 := by rw [size_len, ho.out]; exact hlen
  go_wp2_with fail
  go_ret
  refine ⟨_, rfl, ?_, hb⟩
  show _ = _
  rw [toList_app, toList_app, toList_app, ho.out, litL, ← size_len]
  simp
end Go.Proofs.YtphahhmfijgalaaDoor
