/- MailStores: walked. (written by tools/gen_MoI.py) -/
import Derived.Test.YtdobbfjmlnlieaaGreatB34
import Derived.Test.YtdobbfjmlnlieaaGreatB35
namespace Go.Proofs.YtdobbfjmlnlieaaGreat
set_option linter.unusedSimpArgs false
open Go.RowKit
attribute [local go_sem ↓] Go.wp_at_zero Go.wp_at_succ

/-- the request as a store -/
def opS (q : Rq) : Rq := { q with op := 7 }
theorem MlIn.bxs {W : World} {a : Option Addr} {n c : Nat} {v1 v2 v3 v4 v5 : Value} {m : Ml} (h : MlIn W (.agg [.slice a n c, v1, v2, v3, v4, v5].toArray) m) : ∃ bs : List BxV, bs.map BxV.b = m.boxes ∧ n = bs.length ∧ BxsIn W (.slice a bs.length c) bs := by
  obtain ⟨vb, vh, vs, bs, hv, hb, hi, -, -⟩ := h
  unfold mlVal at hv
  injection hv with hv
  have h0 : Value.slice a n c = vb := by
    have := congrArg (fun x : Array Value => x[0]?) hv
    simpa using this
  subst h0
  obtain ⟨ao, cap, he, hr⟩ := hi.1
  injection he with e1 e2 e3
  subst e2
  exact ⟨bs, hb, rfl, hi⟩
theorem RightP.bxsz {m : Ml} (h : RightP m) {bs : List BxV} (hb : bs.map BxV.b = m.boxes) : bs.length ≤ 1000000 ∧ ∀ y ∈ bs, y.rows.length ≤ 1000000 ∧ ∀ x ∈ y.rows, x.x.flags.length * 16 ≤ 140737488355328 := by
  have hl : bs.length = m.boxes.length := by rw [← hb, List.length_map]
  refine ⟨by have := h.lb; omega, fun y hy => ?_⟩
  have hm : y.b ∈ m.boxes := by rw [← hb]; exact List.mem_map_of_mem hy
  have h1 := (h.boxes _ hm).len
  have h2 : y.b.letters.length = y.rows.length := List.length_map ..
  refine ⟨by omega, fun x hx => ?_⟩
  have := right_16 ((h.boxes _ hm).lets x.x (List.mem_map_of_mem (f := LtV.x) hx)).fl
  omega
end Go.Proofs.YtdobbfjmlnlieaaGreat
