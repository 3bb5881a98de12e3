/- A number's digits: strconv.FormatUint at base 10, and word.Digits over it; new memory alone is written. -/
import Derived.Test.YtifpmcfadmmkiaaDoorRows
import Derived.Test.YtifpmcfadmmkiaaDoorShelf
import Derived.Test.YtifpmcfadmmkiaaDoorKit
import Derived.Lib.ItoaMem
import Derived.Lib.ItoaLen
import Derived.Lib.Walk
import Derived.Lib.AppendIntMem
namespace Go.Proofs.YtifpmcfadmmkiaaDoor
open Go.RowKit Go.Sort

/-- the table of powers of ten lies as the text lays it -/
def Tab (w : World) : Prop := Lib.TabIs Tryd.prog w "internal/strconv.uint64pow10" .u64 Lib.pow10Tab
theorem Tab.later {w w' : World} (h : Tab w) (hb : Below w.heap.size w w') : Tab w' := by
  unfold Tab Lib.TabIs at h ⊢
  unfold World.var? at h ⊢
  cases hg : Tryd.prog.globalNamed "internal/strconv.uint64pow10" with
  | none => simp [hg] at h
  | some g =>
    simp only [hg, Option.bind_some] at h ⊢
    have hlt : g < w.heap.size := by
      rcases Nat.lt_or_ge g w.heap.size with h' | h'
      · exact h'
      · simp [Array.getElem?_eq_none h'] at h
    rw [hb.block g hlt]; exact h
theorem below_grow (w : World) (k : Nat) (os : Array Obj) : Below w.heap.size w (grow (w.drewN k) os) :=
  ⟨rfl, rfl, rfl, by show w.heap.size ≤ (w.heap ++ os).size; rw [Array.size_append]; omega, fun i hi => by show (w.heap ++ os)[i]? = _; rw [Array.getElem?_append_left hi]⟩

/-- e returns a text whose bytes are l; of what was there nothing has turned -/
def RetStr (l : List UInt8) (w : World) (e : Ending) (w' : World) : Prop := ∃ u : ByteArray, e = .returned (.string u) ∧ Hid (u.data.toList = l) ∧ Below w.heap.size w w'

theorem fin0 (w : World) (o : Obj) (dk : Array UInt8) (k : Nat) : Below w.heap.size w ((putRow (fun (b : UInt8) => Value.int .u8 (b.toNat : Int)) (w.alloc o) w.heap.size 0 dk).drewN k) := by
  rw [alloc_eq_grow]
  obtain ⟨os', _, e⟩ := putRow_grow_new (fun (b : UInt8) => Value.int .u8 (b.toNat : Int)) w #[o] w.heap.size 0 dk (Nat.le_refl _)
  rw [e]
  exact below_grow w k os'
set_option maxHeartbeats 1000000 in
set_option maxRecDepth 100000 in
theorem formatUint_inner (u : Nat) (hu64 : u < 18446744073709551616) (w : World) (ht : Tab w) :
    Calls Tryd.prog 56 #[.int .u64 u, .int .i64 10] w (RetStr (Lib.decDigits u) w) := by
  by_cases hs : u < 100
  · clear hu64
    go_enter Tryd.func56, Tryd.ntmps56
    go_wp2_with (go_at_call 79; refine (Tryd.internal_strconv_small u hs _).mono ?_; rintro e w' ⟨rfl, rfl⟩)
    go_ret
    exact ⟨_, rfl, rfl, Below.refl _ _⟩
  · have hu1 : 1 ≤ u := by omega
    have hnd20 : Lib.nDigits u ≤ 20 := Lib.nDigits_le20 u hu64
    have hal : Tryd.prog.arrayLen 104 = 24 := by simp [Program.arrayLen, Tryd.underlying104]
    have hsl1 : ∀ W, (Instr.sliceAt 104 (.pointer (some ⟨w.heap.size, 0, none⟩)) none (some (.int .i64 (Lib.nDigits u : Int))) none).run Tryd.prog W = .ok (.slice (some ⟨w.heap.size, 0, none⟩) (Lib.nDigits u) 24) W := fun W => by
      rw [run_sliceAt_array_h W 104 ⟨w.heap.size, 0, none⟩ (by simp [Program.arrayLen, Program.elem, Tryd.underlying104]) .i64 (Lib.nDigits u : Int) (by omega) (by rw [hal]; omega)]
      go_simp
    have hH0 := Lib.holds_zero0 w 104 (Lib.nDigits u) (by omega)
    have hfmt := Tryd.internal_strconv_formatBase10 w.heap.size 0 24 u (Array.replicate (Lib.nDigits u) 0) (w.alloc (.cells Lib.zeros24 104)) hH0 (by rw [Array.size_replicate]; exact Lib.lt_pow_nDigits u) hu64 (by rw [Array.size_replicate]; omega)
    rw [Array.size_replicate] at hfmt
    have HH0 := Lib.hid hH0
    have h64 := Lib.hid hu64
    clear hH0 hal hu64
    go_enter Tryd.func56, Tryd.ntmps56
    go_wp2_with (go_at_call 80; refine (Tryd.internal_strconv_numDigits u hu1 h64.out _ (Lib.tabIs_alloc ht _)).mono ?_; rintro e w' ⟨rfl, rfl⟩)
    go_at_call 81
    refine hfmt.mono ?_
    rintro e w' ⟨rfl, k, v', dk, rfl, hF⟩
    have hcv : (convert 59 9 (.slice (some ⟨w.heap.size, 0, none⟩) (Lib.nDigits u) 24)).run Tryd.prog ((putRow (fun (b : UInt8) => Value.int .u8 (b.toNat : Int)) (w.alloc (.cells Lib.zeros24 104)) w.heap.size 0 dk).drewN k) = .ok (.string ⟨(Lib.decDigits u).toArray⟩) ((putRow (fun (b : UInt8) => Value.int .u8 (b.toNat : Int)) (w.alloc (.cells Lib.zeros24 104)) w.heap.size 0 dk).drewN k) := by
      have h := run_convert_bytes_back (P := Tryd.prog) ((putRow (fun (b : UInt8) => Value.int .u8 (b.toNat : Int)) (w.alloc (.cells Lib.zeros24 104)) w.heap.size 0 dk).drewN k) 59 9 5 ⟨w.heap.size, 0, none⟩ 24 (Lib.decDigits u) Tryd.underlying59 Tryd.underlying5 Tryd.underlying9 (fun j hj => by
        rw [Lib.row_is_numeral hF j hj, Lib.add_plain, World.cell?_drewN]
        exact cell?_putRow (fun (b : UInt8) => Value.int .u8 (b.toNat : Int)) _ w.heap.size 0 _ dk HH0.out (by rw [hF.size, Array.size_replicate]) j (by rw [hF.size]; rw [Lib.decDigits_length] at hj; exact hj))
      rw [Lib.decDigits_length] at h
      exact h
    go_wp2
    go_ret
    exact ⟨_, rfl, rfl, fin0 w _ dk k⟩
theorem formatUint_any (u : Nat) (hu64 : u < 18446744073709551616) (w : World) (ht : Tab w) :
    Calls Tryd.prog 45 #[.int .u64 u, .int .i64 10] w (RetStr (Lib.decDigits u) w) := by
  go_enter Tryd.func45, Tryd.ntmps45
  go_wp2_with fail
  refine (formatUint_inner u hu64 w ht).mono ?_
  rintro e w' ⟨o, rfl, ho, hb⟩
  go_wp2_with fail
  go_ret
  exact ⟨_, rfl, ho, hb⟩
theorem digits_any (u : Nat) (hu64 : u < 18446744073709551616) (w : World) (ht : Tab w) :
    Calls Tryd.prog 33 #[.int .u64 u] w (RetStr (Lib.decDigits u) w) := by
  go_enter Tryd.func33, Tryd.ntmps33
  go_wp2_with fail
  refine (formatUint_any u hu64 w ht).mono ?_
  rintro e w' ⟨o, rfl, ho, hb⟩
  go_wp2_with fail
  go_ret
  exact ⟨_, rfl, ho, hb⟩

theorem below_mono {B : Nat} {a b c : World} (h : Below B a b) (hB : B ≤ b.heap.size) (k : Below b.heap.size b c) : Below B a c := h.trans (k.mono hB)
theorem eqS {u v : ByteArray} {l : List UInt8} (hu : Hid (u.data.toList = l)) (hv : Hid (v.data.toList = l)) : (u.toList == v.toList) = true := by
  rw [ByteArray.toList_eq, ByteArray.toList_eq, hu.out, hv.out]; exact beq_self_eq_true l
theorem eqT {u : ByteArray} {l m : List UInt8} (hu : Hid (u.data.toList = l)) (h : (l == m) = true) : (u.toList == m) = true := by
  rw [ByteArray.toList_eq, hu.out]; exact h
theorem empty_iff (s : ByteArray) : s.toList.isEmpty = decide (s.size = 0) := by
  rw [ByteArray.toList_eq, size_len]; cases s.data.toList <;> simp
end Go.Proofs.YtifpmcfadmmkiaaDoor
