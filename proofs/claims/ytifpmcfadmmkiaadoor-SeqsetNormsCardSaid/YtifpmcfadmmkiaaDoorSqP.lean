/- What every right program answers: alive, walked. -/
import Derived.Test.YtifpmcfadmmkiaaDoorSqO
import Derived.Test.YtifpmcfadmmkiaaDoorSqI
import Derived.Test.YtifpmcfadmmkiaaDoorSqL
namespace Go.Proofs.YtifpmcfadmmkiaaDoor
open Go.RowKit

theorem alive_ts {ts : List Nat} (h : Rising [3, 1, 2, 9, 0] ts) : normF ts = [(1, 3), (9, 9)] := by
  have hp : ts.Perm [1, 2, 3, 9] := (List.perm_ext_iff_of_nodup h.1.1 (by decide)).2 fun x => by
    rw [h.2 x]
    simp only [List.mem_cons, List.not_mem_nil, or_false]
    omega
  have e : ts = [1, 2, 3, 9] := hp.eq_of_pairwise (fun a b _ _ h1 h2 => Nat.le_antisymm h1 h2) h.1.2 (by decide)
  rw [e]
  rfl
theorem alive_parse : parseL [50, 44, 52, 58, 55, 44, 57, 58, 42] = some [(2, 2), (4, 7), (9, 0)] := by kernel_rfl
theorem alive_print : printL [(2, 2), (4, 7), (9, 0)] = [50, 44, 52, 58, 55, 44, 57, 58, 42] := by kernel_rfl
theorem alive_ok : printOk [(2, 2), (4, 7), (9, 0)] = true := by kernel_rfl
theorem alive_h1 : hasL [(2, 2), (4, 7), (9, 0)] 5 7 = true := by kernel_rfl
theorem alive_h2 : hasL [(2, 2), (4, 7), (9, 0)] 5 3 = false := by kernel_rfl
theorem alive_row (w : World) : OwnN (w.alloc (.cells #[.int .u64 3, .int .u64 1, .int .u64 2, .int .u64 9, .int .u64 0] 35)) w.heap.size (.slice (some ⟨w.heap.size, 0, none⟩) 5 5) [3, 1, 2, 9, 0] :=
  ⟨rfl, .inr ⟨w.heap.size, 5, _, rfl, Nat.le_refl _, heap_alloc_new w _, Nat.le_refl _, by unfold maxLen; omega, rfl, rfl⟩⟩
set_option maxRecDepth 100000 in
set_option maxHeartbeats 4000000 in
theorem alive_any : AliveOk := by
  intro w hg
  have hmx : Tryd.prog.follows .mixedOrders = true := by kernel_rfl
  have hp := Lib.hid (parse_any ⟨#[50, 44, 52, 58, 55, 44, 57, 58, 42]⟩ (by decide) w hg)
  replace hg := Lib.hid hg
  go_enter Tryd.func11, Tryd.ntmps11
  go_wp2_with fail
  refine hp.out.mono ?_
  rintro e w1 ⟨v, rfl, h1, h2⟩
  have e1 : parseL (⟨#[50, 44, 52, 58, 55, 44, 57, 58, 42]⟩ : ByteArray).data.toList = some [(2, 2), (4, 7), (9, 0)] := alive_parse
  rw [e1] at h1 ⊢
  have h1 : Hid (RangesIn w1 w1.heap.size v [(2, 2), (4, 7), (9, 0)]) := h1
  have hpr := Lib.hid (print_any _ v w1 h1.out (by decide) (hg.out.later h2.out).1)
  clear hp e1
  go_wp2_with fail
  refine hpr.out.mono ?_
  rintro e w2 ⟨u, rfl, g1, g2⟩
  have hu : u = ⟨#[50, 44, 52, 58, 55, 44, 57, 58, 42]⟩ := by
    have := g1.out
    rw [if_pos alive_ok, alive_print] at this
    apply ByteArray.ext
    apply Array.ext'
    exact this
  subst hu
  rw [alive_ok]
  clear hpr g1
  have h12 := Lib.hid (h2.out.trans (g2.out.mono h2.out.size))
  have hr2 := Lib.hid (h1.out.on g2.out)
  clear h1 h2 g2
  go_wp2_with fail
  refine (norm_any sort_few [3, 1, 2, 9, 0] _ _ (alive_row w2).rd (by decide) (by decide) (by decide)).mono ?_
  rintro e w3 ⟨v5, ts, rfl, n1, n2, n3⟩
  have hn := Lib.hid (show OwnR w3 _ v5 [(1, 3), (9, 9)] from alive_ts n1.out ▸ n2.out)
  have h23 := Lib.hid ((((Below.refl w2.heap.size w2).alloc (Nat.le_refl _) (.cells #[.int .u64 3, .int .u64 1, .int .u64 2, .int .u64 9, .int .u64 0] 35))).trans (n3.out.mono (by simp)))
  have h13 := Lib.hid (h12.out.trans (h23.out.mono h12.out.size))
  have hr3 := Lib.hid (hr2.out.on h23.out)
  have hn3 := Lib.hid hn.out.ranges
  clear hr2 h12 n1 n2 n3 hn h23
  obtain ⟨ao, cap, rfl, hc⟩ := hr3.out
  obtain ⟨ao5, cap5, rfl, hc5⟩ := hn3.out
  rcases hc with hc | ⟨b, o, rfl, hlt, hle, hc⟩
  · cases hc
  rcases hc5 with hc5 | ⟨b5, o5, rfl, hlt5, hle5, hc5⟩
  · cases hc5
  obtain ⟨c2a, c2b⟩ := hc 2 (by decide)
  obtain ⟨c5a, c5b⟩ := hc5 0 (by decide)
  replace c2a : w3.cell? ⟨b, o + 4, none⟩ = some (.int .u64 9) := c2a
  replace c2b : w3.cell? ⟨b, o + 4 + 1, none⟩ = some (.int .u64 0) := c2b
  replace c5a : w3.cell? ⟨b5, o5, none⟩ = some (.int .u64 1) := c5a
  replace c5b : w3.cell? ⟨b5, o5 + 1, none⟩ = some (.int .u64 3) := c5b
  have hA := Lib.hid (fun W n (h : Below w3.heap.size w3 W) => has_any [(2, 2), (4, 7), (9, 0)] _ 5 n W (by decide) (hr3.out.on h))
  have hk := Lib.hid (fun W (h : Below w3.heap.size w3 W) => And.intro ((h.cell (p := ⟨b5, o5, none⟩) hlt5).trans c5a) ((h.cell (p := ⟨b5, o5 + 1, none⟩) hlt5).trans c5b))
  have hb0 : Hid (Below w3.heap.size w3 w3) := Lib.hid (Below.refl _ _)
  clear hr3 hn3 hlt hlt5 hc hc5
  simp only [List.length_cons, List.length_nil, Nat.zero_add, Nat.reduceAdd] at hle hle5 ⊢
  go_wp2_with fail
  refine (hA.out w3 7 hb0.out).mono ?_
  rintro e w4 ⟨rfl, hb4⟩
  have hb4 := Lib.hid hb4
  rw [alive_h1]
  have hA4 := hA.out w4 3 hb4.out
  rw [alive_h2] at hA4
  replace hA4 := Lib.hid hA4
  go_wp2_with fail
  refine hA4.out.mono ?_
  rintro e w5 ⟨rfl, hb5⟩
  have hb5 := Lib.hid (hb4.out.trans (hb5.mono hb4.out.size))
  obtain ⟨c5a, c5b⟩ := hk.out w5 hb5.out
  have hend := Lib.hid (h13.out.trans (hb5.out.mono h13.out.size))
  clear hA4 hA hk hb4
  go_wp2_with fail
  go_ret
  exact ⟨rfl, hend.out⟩
end Go.Proofs.YtifpmcfadmmkiaaDoor
