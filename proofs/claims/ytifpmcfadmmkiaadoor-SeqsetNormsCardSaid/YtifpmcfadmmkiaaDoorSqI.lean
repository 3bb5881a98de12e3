/- SeqsetTurned, SeqsetHolds: walked, over what 'alive' answers. -/
import Derived.Test.YtifpmcfadmmkiaaDoorSqH
import Derived.Deep.RegionWith
import Derived.Deep.RegionLaw
namespace Go.Proofs.YtifpmcfadmmkiaaDoor
open Go.RowKit

/-- what 'alive' answers, wherever the ground lies -/
def AliveOk : Prop := ∀ W, Gr W → Calls Tryd.prog 11 #[] W fun e W' => e = .returned (.bool true) ∧ Below W.heap.size W W'
def turn (r : Rng) : Rng := (r.2, r.1)
def turnL (rs : List Rng) : List Rng := (rs.map turn).reverse
theorem turn_one (most n : Nat) (r : Rng) : hasOne most n (turn r) = hasOne most n r := by
  unfold hasOne turn
  dsimp only
  rw [Int.min_comm, Int.max_comm]
theorem turn_has (rs : List Rng) (most n : Nat) : hasL (turnL rs) most n = hasL rs most n := by
  unfold hasL turnL
  rw [List.any_reverse, List.any_map]
  congr 1
  funext r
  exact turn_one most n r
theorem turn_step (rs : List Rng) (i : Nat) (h : i < rs.length) : turnL (rs.drop i) = turnL (rs.drop (i + 1)) ++ [(rs[i].2, rs[i].1)] := by
  unfold turnL
  rw [List.drop_eq_getElem_cons h, List.map_cons, List.reverse_cons]
  rfl
/-- 'append(v, Range{x, y})', in a drawn region -/
theorem step_append_range {W : World} {ops : Array Oper} {o : Oper} {a : Act} {K : Act → World → Prop} {Q : Exit → Act → World → Prop} {E : Prop} (hgd : o.guard = none) (s x : Operand)
    (ho : o.op = .call { callee := .builtin .append, args := #[s, x], argTypes := #[22, 22] }) (B : Nat) (v : Value) (l : List Rng) (p q : Nat)
    (hs : a.eval s = v) (hx : a.eval x = .slice (some ⟨W.heap.size, 0, none⟩) 1 1) (hown : OwnR W B v l) (hlen : (l.length + 1) * 16 ≤ 140737488355328) (hbase : B ≤ W.heap.size)
    (h : ∀ v' w', OwnR w' B v' (l ++ [(p, q)]) → Below B W w' → K (a.put o.dst v') w') : if Region.wanted o (yielded ops a.tmps) = true then Oper.wp Tryd.prog o a (W.alloc (.cells #[.int .u64 p, .int .u64 q] 37)) K Q else E := by
  have hw : Region.wanted o (yielded ops a.tmps) = true := by simp [Region.wanted, hgd]
  rw [if_pos hw]
  have hown2 := hown.alloc (.cells #[.int .u64 p, .int .u64 q] 37)
  refine wp_append_rd s x 22 ho B 37 _ 2 16 Tryd.underlying22 rng_info rfl (by decide) v _ l.length 1 (rangesCells l) (rangesCells [(p, q)]) hs hx hown2 (Rd.of_own (OwnR.one W p q)) rfl (rangesCells_one _) (by unfold maxLen; omega) hlen (by simp; omega) ?_
  intro v' w' ho' hg' _
  refine h v' w' ?_ (((Below.refl B W).alloc hbase _).grown hg' (by simp; omega) (fun k hk => (World.ownsRow.lt hown2 k hk).1))
  unfold OwnR
  rw [List.length_append, rangesCells_app]
  exact ho'
theorem turn_len (rs : List Rng) : (turnL rs).length = rs.length := by simp [turnL]
set_option maxRecDepth 100000 in
set_option maxHeartbeats 4000000 in
theorem turned_any (hal : AliveOk) (rs : List Rng) (v : Value) (most n : Nat) (w : World) (hl : rs.length * 16 ≤ 140737488355328) (hk : RangesIn w w.heap.size v rs) (hg : Gr w) :
    Calls Tryd.prog 7 #[v, .int .u64 most, .int .u64 n] w fun e w' => e = .returned (.bool true) ∧ Below w.heap.size w w' := by
  have hk0 := Lib.hid hk
  have hH := Lib.hid (fun W v ks (h : RangesIn W W.heap.size v ks) (hlen : ks.length ≤ 9223372036854775807) => has_any ks v most n W hlen h)
  have ht := Lib.hid (turn_has rs most n)
  have htl := Lib.hid (turn_len rs)
  obtain ⟨ao, cap, rfl, _⟩ := hk
  replace hg := Lib.hid hg
  replace hal := Lib.hid hal
  unfold AliveOk at hal
  go_enter Tryd.func7, Tryd.ntmps7
  go_wp2_with fail
  go_loopw [7, 8] (fun v7 v8 wr => ∃ (j : Nat) (z : Int), v8 = .int .i64 z ∧ z = (j : Int) - 1 ∧ j ≤ rs.length ∧ Hid (OwnR wr w.heap.size v7 (turnL (rs.drop j))) ∧ Hid (Below w.heap.size w wr)) (fun _ v8 _ => ((intOf v8) + 1).toNat)
  case atStart => exact ⟨rs.length, _, rfl, rfl, Nat.le_refl _, Lib.hid (by rw [List.drop_length]; exact OwnR.nil _ _), Lib.hid (Below.refl _ _)⟩
  case round =>
    obtain ⟨j, z, rfl, hz, hj, hown, hb⟩ := hrel
    have hsz := hb.out.size
    rcases Nat.eq_zero_or_pos j with h0 | h0
    · subst h0
      have hz0 : decide ((0 : Int) ≤ z) = false := by simp; omega
      clear hz
      rw [List.drop_zero] at hown
      have hr1 := Lib.hid (hk0.out.on hb.out)
      have hr2 := Lib.hid hown.out.ranges
      go_wp2_with fail
      refine (hal.out wr (hg.out.later hb.out)).mono ?_
      rintro e w2 ⟨rfl, hb2⟩
      have hB2 := Lib.hid (hb.out.trans (hb2.mono hb.out.size))
      have hr3 := Lib.hid (hr1.out.on hb2)
      have hr4 := Lib.hid (hr2.out.on hb2)
      clear hb2 hr1 hr2
      go_wp2_with fail
      refine (hH.out w2 _ rs hr3.out (by omega)).mono ?_
      rintro e w3 ⟨rfl, hb3⟩
      have hB3 := Lib.hid (hB2.out.trans (hb3.mono hB2.out.size))
      have hr5 := Lib.hid (hr4.out.on hb3)
      have hc := hH.out w3 _ (turnL rs) hr5.out (by rw [htl.out]; omega)
      rw [ht.out] at hc
      replace hc := Lib.hid hc
      clear hb3 hr3 hr4 hr5
      generalize hasL rs most n = X at hc
      cases X
      all_goals (
        go_wp2_with fail
        refine hc.out.mono ?_
        rintro e w4 ⟨rfl, hb4⟩
        go_wp2_with fail
        go_ret
        exact ⟨rfl, hB3.out.trans (hb4.mono hB3.out.size)⟩)
    · obtain ⟨i, rfl⟩ : ∃ i, j = i + 1 := ⟨j - 1, by omega⟩
      obtain rfl : z = (i : Int) := by omega
      have hlt : i < rs.length := by omega
      obtain ⟨ao', cap', hv, hk | ⟨b, o, hao, hbB, hcap, hcells⟩⟩ := hk0.out.later hb.out
      · rw [hk] at hlt; simp at hlt
      · cases hv
        subst hao
        obtain ⟨c0, c1⟩ := hcells i hlt
        have hst := turn_step rs i hlt
        have hlen : (turnL (rs.drop (i + 1))).length + 1 ≤ rs.length := by rw [turn_len, List.length_drop]; omega
        generalize rs[i] = r at c0 c1 hst
        obtain ⟨x, y⟩ := r
        dsimp only at c0 c1 hst
        replace hst := Lib.hid hst
        clear hcells hz
        have hi0 : (0 : Int) ≤ (i : Int) := by omega
        have hi1 : (i : Int) < (rs.length : Int) := by omega
        have hbd := Lib.hid (Below.drew hb.out)
        have hod := Lib.hid (hown.out.below (Below.drew (Below.refl _ _)))
        have hz2 := hbd.out.size
        have c0' : wr.drew.cell? ⟨b, o + i * 2, none⟩ = some (.int .u64 x) := c0
        have c1' : wr.drew.cell? ⟨b, o + i * 2 + 1, none⟩ = some (.int .u64 y) := c1
        go_wp2_with fail
        go_region_law (refine step_append_range (W := wr.drew) rfl (.tmp 16) (.tmp 28) rfl w.heap.size u7 (turnL (rs.drop (i + 1))) y x (by simp [Act.eval]) (by simp [Act.eval]) hod.out (by omega) hz2 ?_; intro v7 w3 ho3 hb3)
        all_goals (
          have hB3 := Lib.hid (hbd.out.trans hb3)
          have ho4 : Hid (OwnR w3 w.heap.size v7 (turnL (rs.drop i))) := Lib.hid (by rw [hst.out]; exact ho3)
          clear ho3 hb3 hbd hod
          go_wp2_with fail
          go_roundw
          case rel => exact ⟨i, (i : Int) - 1, rfl, rfl, by omega, ho4, hB3⟩
          case measure => simp [intOf] <;> omega)
end Go.Proofs.YtifpmcfadmmkiaaDoor
