/- mail's seatsRight, asked about a right state: walked. (written by tools/gen_MnJ.py) mail.Right, asked about a right state: walked. (written by tools/gen_MnG.py) -/
import Derived.Test.YtdobbfjmlnlieaaGreatB29
import Derived.Test.YtdobbfjmlnlieaaGreatB20
import Derived.Test.YtdobbfjmlnlieaaGreatB22
import Derived.Test.YtdobbfjmlnlieaaGreatB21
namespace Go.Proofs.YtdobbfjmlnlieaaGreat
set_option linter.unusedSimpArgs false
open Go.RowKit
attribute [local go_sem ↓] Go.wp_at_zero Go.wp_at_succ

theorem MlIn.rows {W : World} {m : Ml} {ab ah as_ : Option Addr} {nb cb nv nh ch ns cs nse sw : Nat} (h : MlIn W (.agg #[.slice ab nb cb, .int .u64 nv, .slice ah nh ch, .slice as_ ns cs, .int .u64 nse, .int .u64 sw]) m) : HmsIn W (.slice ah nh ch) m.homes ∧ StsIn W (.slice as_ ns cs) m.seats := by
  obtain ⟨vb, vh, vs, bs, e, hbs, hib, hih, his⟩ := h
  unfold mlVal at e
  have e1 := congrArg (fun v => match v with | .agg a => (a[2]?, a[3]?) | _ => (none, none)) e
  simp at e1
  rw [e1.1, e1.2]
  exact ⟨hih, his⟩
theorem hm_at {W : World} {v : Value} {l : List Hm} (h : HmsIn W v l) {j : Nat} (hj : j < l.length) : ∃ b bo cap, v = .slice (some ⟨b, bo, none⟩) l.length cap ∧ ∀ W', Below W.heap.size W W' → W'.cell? ⟨b, bo + j * 3, none⟩ = some (.int .i64 l[j].node) ∧ W'.cell? ⟨b, bo + j * 3 + 1, none⟩ = some (.int .u64 l[j].life) ∧ W'.cell? ⟨b, bo + j * 3 + 2, none⟩ = some (.int .u64 l[j].try_) := by
  obtain ⟨b, bo, cap, hv, -, hbl, hc⟩ := hmT.rd_cells h hj
  refine ⟨b, bo, cap, hv, fun W' hb => ?_⟩
  have hk : ∀ r u, (hmT.enc l[j])[r]? = some u → W'.cell? ⟨b, bo + j * 3 + r, none⟩ = some u := fun r u hu => by
    rw [Nat.add_assoc]
    exact (hb.cell (p := ⟨b, bo + (j * 3 + r), none⟩) hbl).trans (hc r u hu)
  exact ⟨hk 0 _ rfl, hk 1 _ rfl, hk 2 _ rfl⟩
theorem st_at {W : World} {v : Value} {l : List St} (h : StsIn W v l) {j : Nat} (hj : j < l.length) : ∃ b bo cap, v = .slice (some ⟨b, bo, none⟩) l.length cap ∧ ∀ W', Below W.heap.size W W' → W'.cell? ⟨b, bo + j * 5, none⟩ = some (.int .u64 l[j].session) ∧ W'.cell? ⟨b, bo + j * 5 + 1, none⟩ = some (.int .u64 l[j].last) ∧ W'.cell? ⟨b, bo + j * 5 + 2, none⟩ = some (.int .i64 l[j].node) ∧ W'.cell? ⟨b, bo + j * 5 + 3, none⟩ = some (.int .u64 l[j].life) ∧ W'.cell? ⟨b, bo + j * 5 + 4, none⟩ = some (.int .u64 l[j].try_) := by
  obtain ⟨b, bo, cap, hv, -, hbl, hc⟩ := stT.rd_cells h hj
  refine ⟨b, bo, cap, hv, fun W' hb => ?_⟩
  have hk : ∀ r u, (stT.enc l[j])[r]? = some u → W'.cell? ⟨b, bo + j * 5 + r, none⟩ = some u := fun r u hu => by
    rw [Nat.add_assoc]
    exact (hb.cell (p := ⟨b, bo + (j * 5 + r), none⟩) hbl).trans (hc r u hu)
  exact ⟨hk 0 _ rfl, hk 1 _ rfl, hk 2 _ rfl, hk 3 _ rfl, hk 4 _ rfl⟩
end Go.Proofs.YtdobbfjmlnlieaaGreat
namespace Go.Proofs.YtdobbfjmlnlieaaGreat
set_option linter.unusedSimpArgs false
open Go.RowKit
attribute [local go_sem ↓] Go.wp_at_zero Go.wp_at_succ

/-- mailbox j of a row, and its cells -/
theorem bx_at {W : World} {v : Value} {l : List BxV} (h : BxsIn W v l) {j : Nat} (hj : j < l.length) : ∃ b bo cap, v = .slice (some ⟨b, bo, none⟩) l.length cap ∧ l.length ≤ cap ∧ ∀ W', Below W.heap.size W W' → W'.cell? ⟨b, bo + j * 5, none⟩ = some (.string l[j].name) ∧ W'.cell? ⟨b, bo + j * 5 + 1, none⟩ = some (.int .u64 l[j].validity) ∧ W'.cell? ⟨b, bo + j * 5 + 2, none⟩ = some (.int .u64 l[j].next) ∧ W'.cell? ⟨b, bo + j * 5 + 3, none⟩ = some (.int .u64 l[j].high) ∧ W'.cell? ⟨b, bo + j * 5 + 4, none⟩ = some (.slice l[j].a l[j].rows.length l[j].c) := by
  obtain ⟨b, bo, cap, hv, hcap, hbl, hc⟩ := bxT.rd_cells h.1 hj
  refine ⟨b, bo, cap, hv, hcap, fun W' hb => ?_⟩
  have hk : ∀ r u, (bxT.enc l[j])[r]? = some u → W'.cell? ⟨b, bo + j * 5 + r, none⟩ = some u := fun r u hu => by
    rw [Nat.add_assoc]
    exact (hb.cell (p := ⟨b, bo + (j * 5 + r), none⟩) hbl).trans (hc r u hu)
  exact ⟨hk 0 _ rfl, hk 1 _ rfl, hk 2 _ rfl, hk 3 _ rfl, hk 4 _ rfl⟩
end Go.Proofs.YtdobbfjmlnlieaaGreat
