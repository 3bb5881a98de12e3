/- A state in a block, as the laws of mail hold it; what begun hands back is right. -/
import Derived.Test.YtdobbfjmlnlieaaGreatB20
import Derived.Test.YtdobbfjmlnlieaaGreatB22
import Derived.Test.YtdobbfjmlnlieaaGreatB23
namespace Go.Proofs.YtdobbfjmlnlieaaGreat
set_option linter.unusedSimpArgs false
open Go.RowKit

theorem right_new : RightP newM where
  lb := by decide
  nv := by show (2 : Nat) ≤ 4294967296; omega
  ns1 := Nat.le_refl _
  ns2 := by show (1 : Nat) ≤ 4611686018427387904; omega
  sw := Nat.zero_le _
  ls := Nat.zero_le _
  boxes := fun b hb => by
    obtain rfl := List.mem_singleton.1 hb
    exact ⟨by kernel_rfl, by kernel_rfl, by decide, by decide, by decide, by show (1 : Nat) ≤ 4294967296; omega, by decide, by show (1 : Nat) ≤ 9223372036854775807; omega, by decide, (fun x hx => by cases hx), List.Pairwise.nil⟩
  names := List.pairwise_singleton _ _
  vals := List.pairwise_singleton _ _
  inbox := ⟨newBx.b, List.mem_singleton.2 rfl, by kernel_rfl⟩
  seated := ⟨(fun h hh => by cases hh), List.Pairwise.nil, (fun h hh => by cases hh), List.Pairwise.nil, List.Pairwise.nil⟩
theorem MlIn.shape {W : World} {C : List Value} {m : Ml} (h : MlIn W (.agg C.toArray) m) : ∃ ab cb nb ah ch as_ cs, C = [.slice ab nb cb, .int .u64 m.nv, .slice ah m.homes.length ch, .slice as_ m.seats.length cs, .int .u64 m.ns, .int .u64 m.sweeps] := by
  obtain ⟨ab, cb, nb, ah, ch, as_, cs, e⟩ := h.out_
  injection e with e
  exact ⟨ab, cb, nb, ah, ch, as_, cs, congrArg Array.toList e⟩
/-- a state lies in block MB, what it refers to elsewhere -/
def HoldsS (W : World) (MB : Nat) (m : Ml) (wr : World) : Prop := ∃ C : List Value, Zoo W wr [boxT MB C.toArray 27] ∧ Stay (fun k => k ≠ MB) wr (fun x => MlIn x (.agg C.toArray) m)
theorem BegunRet.right {W w' : World} {m : Ml} {v : Value} {e : Ending} {MB : Nat} (h : BegunRet W m v e w') (hs : Stay (fun k => k ≠ MB) W fun x => MlIn x v m) (hM : MB < W.heap.size) : ∃ (C : List Value) (m0 : Ml), e = .returned (.agg C.toArray) ∧ RightP m0 ∧ Stay (fun k => k ≠ MB) w' (fun x => MlIn x (.agg C.toArray) m0) ∧ Below W.heap.size W w' := by
  obtain ⟨v', rfl, h1, hb⟩ := h
  have key : ∃ m0, RightP m0 ∧ Stay (fun k => k ≠ MB) w' (fun x => MlIn x v' m0) := by
    rcases h1.out with ⟨hr, rfl⟩ | ⟨-, hn⟩
    · exact ⟨m, hr, hs.below hb.out⟩
    · exact ⟨newM, right_new, hn.weak (fun k _ hk => by have h1 : W.heap.size ≤ k := hk; omega)⟩
  obtain ⟨m0, hr, hst⟩ := key
  obtain ⟨ab, cb, nb, ah, ch, as_, cs, rfl⟩ := hst.now.out_
  exact ⟨[.slice ab nb cb, .int .u64 m0.nv, .slice ah m0.homes.length ch, .slice as_ m0.seats.length cs, .int .u64 m0.ns, .int .u64 m0.sweeps], m0, rfl, hr, hst, hb.out⟩
end Go.Proofs.YtdobbfjmlnlieaaGreat
