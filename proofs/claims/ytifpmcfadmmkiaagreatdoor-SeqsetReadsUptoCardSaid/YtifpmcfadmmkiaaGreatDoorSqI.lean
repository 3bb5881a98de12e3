/- SeqsetTurned, SeqsetHolds: walked, over what 'alive' answers. -/
import Derived.Test.YtifpmcfadmmkiaaGreatDoorSqH
import Derived.Deep.RegionWith
import Derived.Deep.RegionLaw
namespace Go.Proofs.YtifpmcfadmmkiaaGreatDoor
open Go.RowKit

/-- what 'alive' answers, wherever the ground lies -/
def AliveOk : Prop := ∀ W, Gr W → Calls Tryz.prog 6 #[] W fun e W' => e = .returned (.bool true) ∧ Below W.heap.size W W'
def turn (r : Rng) : Rng := (r.2, r.1)
def turnL (rs : List Rng) : List Rng := (rs.map turn).reverse
theorem turn_one (most n : Nat) (r : Rng) : hasOne most n (turn r) = hasOne most n r := by
  unfold hasOne turn
  dsimp only
  rw [Int.min_comm, Int.max_comm]
theorem turn_has (rs : List Rng) (most n : Nat) : hasL (turnL rs) most n = hasL rs most n := by
  unfold hasL turnL
  rw [List.any_reverse, List.any_map]
  congr 1
  funext r
  exact turn_one most n r
theorem turn_step (rs : List Rng) (i : Nat) (h : i < rs.length) : turnL (rs.drop i) = turnL (rs.drop (i + 1)) ++ [(rs[i].2, rs[i].1)] := by
  unfold turnL
  rw [List.drop_eq_getElem_cons h, List.map_cons, List.reverse_cons]
  rfl
/-- 'append(v, Range{x, y})', in a drawn region -/
theorem step_append_range {W : World} {ops : Array Oper} {o : Oper} {a : Act} {K : Act → World → Prop} {Q : Exit → Act → World → Prop} {E : Prop} (hgd : o.guard = none) (s x : Operand)
    (ho : o.op = .call { callee := .builtin .append, args := #[s, x], argTypes := #[22, 22] }) (B : Nat) (v : Value) (l : List Rng) (p q : Nat)
    (hs : a.eval s = v) (hx : a.eval x = .slice (some ⟨W.heap.size, 0, none⟩) 1 1) (hown : OwnR W B v l) (hlen : (l.length + 1) * 16 ≤ 140737488355328) (hbase : B ≤ W.heap.size)
    (h : ∀ v' w', OwnR w' B v' (l ++ [(p, q)]) → Below B W w' → K (a.put o.dst v') w') : if Region.wanted o (yielded ops a.tmps) = true then Oper.wp Tryz.prog o a (W.alloc (.cells #[.int .u64 p, .int .u64 q] 36)) K Q else E := by
  have hw : Region.wanted o (yielded ops a.tmps) = true := by simp [Region.wanted, hgd]
  rw [if_pos hw]
  have hown2 := hown.alloc (.cells #[.int .u64 p, .int .u64 q] 36)
  refine wp_append_rd s x 22 ho B 36 _ 2 16 Tryz.underlying22 rng_info rfl (by decide) v _ l.length 1 (rangesCells l) (rangesCells [(p, q)]) hs hx hown2 (Rd.of_own (OwnR.one W p q)) rfl (rangesCells_one _) (by unfold maxLen; omega) hlen (by simp; omega) ?_
  intro v' w' ho' hg' _
  refine h v' w' ?_ (((Below.refl B W).alloc hbase _).grown hg' (by simp; omega) (fun k hk => (World.ownsRow.lt hown2 k hk).1))
  unfold OwnR
  rw [List.length_append, rangesCells_app]
  exact ho'
theorem turn_len (rs : List Rng) : (turnL rs).length = rs.length := by simp [turnL]
end Go.Proofs.YtifpmcfadmmkiaaGreatDoor
