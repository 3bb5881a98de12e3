/- 'Number', of the program and of the document: what a text is read as; new memory alone is written. -/
import Derived.Test.YtphahhmfijgalaaDoorWordN
namespace Go.Proofs.YtphahhmfijgalaaDoor
open Go.RowKit

/-- the two errors of strconv's lie as values of their interface -/
def Errs (w : World) : Prop := (∃ te pe, w.cell? ⟨1, 0, none⟩ = some (.iface te pe)) ∧ (∃ te pe, w.cell? ⟨2, 0, none⟩ = some (.iface te pe))
theorem Errs.later {w w' : World} (h : Errs w) (hb : Below w.heap.size w w') : Errs w' := by
  obtain ⟨⟨t1, p1, h1⟩, t2, p2, h2⟩ := h
  exact ⟨⟨t1, p1, (hb.cell (World.block_lt_of_cell? w _ h1)).trans h1⟩, t2, p2, (hb.cell (World.block_lt_of_cell? w _ h2)).trans h2⟩

/-- what strconv.ParseUint(s, 10, 63) hands back -/
def RetPU (l : List UInt8) (w : World) (e : Ending) (w' : World) : Prop :=
  ∃ (x : Int) (er : Value), e = .returned (.tuple #[.int .u64 x, er]) ∧ ((∃ u : Nat, l ≠ [] ∧ pu 0 l = some (some u) ∧ x = u ∧ er = .nilIface) ∨ ((∀ u, l ≠ [] → pu 0 l ≠ some (some u)) ∧ ∃ t p, er = .iface t p)) ∧ Below w.heap.size w w'
set_option maxHeartbeats 4000000 in
theorem parseUint_ok (s : ByteArray) (hs : s.size ≤ 140737488351232) (hne : s.size ≠ 0) (u : Nat) (hp : pu 0 s.data.toList = some (some u)) (w : World) :
    Calls Tryd.prog 35 #[.string s, .int .i64 10, .int .i64 63] w (RetPU s.data.toList w) := by
  have hq : Hid (s.data.toList ≠ [] ∧ pu 0 s.data.toList = some (some u)) := ⟨fun h => hne (by rw [size_len, h]; rfl), hp⟩
  have hI := parseUint63 s hne (by omega) w
  rw [hp] at hI
  have hI : Calls Tryd.prog 41 #[.string s, .int .i64 10, .int .i64 63] w fun e w' => e = .returned (.tuple #[.int .u64 (u : Int), .nilIface]) ∧ w' = Lib.bytesWorld w 5 s := hI
  replace hI := Lib.hid hI
  clear hp
  go_enter Tryd.func35, Tryd.ntmps35
  go_wp2_with fail
  refine hI.out.mono ?_
  rintro e w' ⟨rfl, rfl⟩
  go_wp2_with fail
  go_ret2
  exact ⟨_, _, rfl, .inl ⟨u, hq.out.1, hq.out.2, rfl, rfl⟩, below_conv _ _ _⟩
set_option maxHeartbeats 4000000 in
theorem parseUint_bad (s : ByteArray) (hs : s.size ≤ 140737488351232) (hne : s.size ≠ 0) (h : ∀ u, pu 0 s.data.toList ≠ some (some u)) (w : World) (he : Errs w) :
    Calls Tryd.prog 35 #[.string s, .int .i64 10, .int .i64 63] w (RetPU s.data.toList w) := by
  have hq : Hid (∀ u, s.data.toList ≠ [] → pu 0 s.data.toList ≠ some (some u)) := fun u _ => h u
  have hI := parseUint63 s hne (by omega) w
  cases hp : pu 0 s.data.toList with
  | none =>
    rw [hp] at hI
    have hI : Calls Tryd.prog 41 #[.string s, .int .i64 10, .int .i64 63] w fun e w' => e = .returned (.tuple #[.int .u64 0, .iface 51 (.int .i64 2)]) ∧ w' = Lib.bytesWorld w 5 s := hI
    replace hI := Lib.hid hI
    have hb := below_conv w 5 s
    obtain ⟨⟨t1, p1, h1⟩, _⟩ := he.later hb
    replace h1 := Lib.hid h1
    clear hp h he
    go_enter Tryd.func35, Tryd.ntmps35
    go_wp2_with fail
    refine hI.out.mono ?_
    rintro e w' ⟨rfl, rfl⟩
    go_wp2_with fail
    refine (Tryd.strconv_toError_syntax _ s _ _ _ _ (by omega) h1.out (.inr ⟨_, _, rfl⟩)).mono ?_
    rintro e w2 ⟨N, rfl, _, _, hb2⟩
    have hbb := below_mono hb hb.size hb2
    go_wp2_with fail
    go_ret2
    exact ⟨_, _, rfl, .inr ⟨hq.out, _, _, rfl⟩, hbb⟩
  | some o =>
    cases o with
    | some u => exact absurd hp (h u)
    | none =>
      rw [hp] at hI
      have hI : Calls Tryd.prog 41 #[.string s, .int .i64 10, .int .i64 63] w fun e w' => e = .returned (.tuple #[.int .u64 9223372036854775807, .iface 51 (.int .i64 1)]) ∧ w' = Lib.bytesWorld w 5 s := hI
      replace hI := Lib.hid hI
      have hb := below_conv w 5 s
      obtain ⟨_, t1, p1, h1⟩ := he.later hb
      replace h1 := Lib.hid h1
      clear hp h he
      go_enter Tryd.func35, Tryd.ntmps35
      go_wp2_with fail
      refine hI.out.mono ?_
      rintro e w' ⟨rfl, rfl⟩
      go_wp2_with fail
      refine (Tryd.strconv_toError_range _ s _ _ _ _ (by omega) h1.out (.inr ⟨_, _, rfl⟩)).mono ?_
      rintro e w2 ⟨N, rfl, _, _, hb2⟩
      have hbb := below_mono hb hb.size hb2
      go_wp2_with fail
      go_ret2
      exact ⟨_, _, rfl, .inr ⟨hq.out, _, _, rfl⟩, hbb⟩
set_option maxHeartbeats 4000000 in
theorem parseUint_empty (s : ByteArray) (hz : s.size = 0) (w : World) (he : Errs w) :
    Calls Tryd.prog 35 #[.string s, .int .i64 10, .int .i64 63] w (RetPU s.data.toList w) := by
  have hs : s = ⟨#[]⟩ := by
    apply ByteArray.ext
    exact Array.eq_empty_of_size_eq_zero hz
  subst hs
  have hI := Tryd.internal_strconv_ParseUint_empty 10 63 w
  have hI : Calls Tryd.prog 41 #[.string ⟨#[]⟩, .int .i64 10, .int .i64 63] w fun e w' => e = .returned (.tuple #[.int .u64 0, .iface 51 (.int .i64 2)]) ∧ w' = w := hI
  replace hI := Lib.hid hI
  obtain ⟨⟨t1, p1, h1⟩, _⟩ := he
  replace h1 := Lib.hid h1
  clear hz
  go_enter Tryd.func35, Tryd.ntmps35
  go_wp2_with fail
  refine hI.out.mono ?_
  rintro e w' ⟨rfl, rfl⟩
  go_wp2_with fail
  refine (Tryd.strconv_toError_syntax _ _ _ _ _ _ (by decide) h1.out (.inr ⟨_, _, rfl⟩)).mono ?_
  rintro e w2 ⟨N, rfl, _, _, hb2⟩
  go_wp2_with fail
  go_ret2
  exact ⟨_, _, rfl, .inr ⟨fun _ h => absurd rfl h, _, _, rfl⟩, hb2⟩
theorem parseUint_any (s : ByteArray) (hs : s.size ≤ 140737488351232) (w : World) (he : Errs w) :
    Calls Tryd.prog 35 #[.string s, .int .i64 10, .int .i64 63] w (RetPU s.data.toList w) := by
  by_cases hz : s.size = 0
  · exact parseUint_empty s hz w he
  · by_cases h : ∃ u, pu 0 s.data.toList = some (some u)
    · obtain ⟨u, hu⟩ := h; exact parseUint_ok s hs hz u hu w
    · exact parseUint_bad s hs hz (fun u hu => h ⟨u, hu⟩) w he
end Go.Proofs.YtphahhmfijgalaaDoor
