/- slices.Collect, slices.Sorted of a map's keys: walked, over what slices.Sort does. -/
import Derived.Test.YtifpmcfadmmkiaaDoorSqJ
namespace Go.Proofs.YtifpmcfadmmkiaaDoor
open Go.RowKit Go.Maps

theorem collect_any {H : Type} (Bm b nn : Nat) (D0 : DataW H) {R : Value → Option (DataW H × List MemPlace)} (w : World) (hBm : Bm < w.heap.size) (hm : w.cell? ⟨Bm, 0, none⟩ = some (.map (some b))) (hown : w.ownsMap Tryd.prog 35 R b nn D0) (hsz : Maps.size D0 ≤ 1000000) :
    Calls Tryd.prog 38 #[.func (.func 40) #[] #[.pointer (some ⟨Bm, 0, none⟩)]] w (CollectRet D0 w) := by
  have hc := Lib.hid (appendSeq_any Bm b nn D0 w hBm hm hown hsz)
  clear hm hown
  go_enter Tryd.func38, Tryd.ntmps38
  go_wp2_with fail
  refine hc.out.mono ?_
  rintro e w1 ⟨v, ss, rfl, h1, h2, h3⟩
  go_wp2_with fail
  go_ret
  exact ⟨v, ss, rfl, h1, h2, h3⟩
/-- what slices.Sort does to a row of the call's own of at most N numbers -/
def SortOk (N : Nat) : Prop := ∀ (W : World) (B : Nat) (v : Value) (ss : List Nat), ss.length ≤ N → B ≤ W.heap.size → OwnN W B v ss → Calls Tryd.prog 39 #[v] W fun e W' => e = .returned (.tuple #[]) ∧ ∃ ts, Hid (OwnN W' B v ts) ∧ Hid (ts.Perm ss ∧ ts.Pairwise (· ≤ ·)) ∧ Hid (Below B W W')
/-- the map's keys, rising -/
def SortedRet {H : Type} (D0 : DataW H) (w : World) (e : Ending) (w' : World) : Prop := ∃ (v : Value) (ts : List Nat), e = .returned v ∧ Hid (KeysOf D0 ts ∧ ts.Pairwise (· ≤ ·)) ∧ Hid (OwnN w' w.heap.size v ts) ∧ Hid (Below w.heap.size w w')
theorem KeysOf.perm {H : Type} {D0 : DataW H} {ss ts : List Nat} (h : KeysOf D0 ss) (hp : ts.Perm ss) : KeysOf D0 ts :=
  ⟨⟨hp.nodup_iff.2 h.1.1, fun x => by rw [hp.mem_iff]; exact h.1.2 x⟩, by rw [hp.length_eq]; exact h.2⟩
theorem sorted_any {N : Nat} (hsort : SortOk N) {H : Type} (Bm b nn : Nat) (D0 : DataW H) {R : Value → Option (DataW H × List MemPlace)} (w : World) (hBm : Bm < w.heap.size) (hm : w.cell? ⟨Bm, 0, none⟩ = some (.map (some b))) (hown : w.ownsMap Tryd.prog 35 R b nn D0) (hsz : Maps.size D0 ≤ 1000000) (hN : Maps.size D0 ≤ N) :
    Calls Tryd.prog 24 #[.func (.func 40) #[] #[.pointer (some ⟨Bm, 0, none⟩)]] w (SortedRet D0 w) := by
  have hc := Lib.hid (collect_any Bm b nn D0 w hBm hm hown hsz)
  replace hsort := Lib.hid hsort
  clear hm hown
  go_enter Tryd.func24, Tryd.ntmps24
  go_wp2_with fail
  refine hc.out.mono ?_
  rintro e w1 ⟨v, ss, rfl, h1, h2, h3⟩
  have hs := Lib.hid (hsort.out w1 w.heap.size v ss (Nat.le_trans h1.out.2 hN) h3.out.size h2.out)
  clear hc
  go_wp2_with fail
  refine hs.out.mono ?_
  rintro e w2 ⟨rfl, ts, g1, g2, g3⟩
  have hk := Lib.hid (And.intro (h1.out.perm g2.out.1) g2.out.2)
  have hb := Lib.hid (h3.out.trans g3.out)
  clear hs
  go_wp2_with fail
  go_ret
  exact ⟨v, ts, rfl, hk, g1, hb⟩
end Go.Proofs.YtifpmcfadmmkiaaDoor
