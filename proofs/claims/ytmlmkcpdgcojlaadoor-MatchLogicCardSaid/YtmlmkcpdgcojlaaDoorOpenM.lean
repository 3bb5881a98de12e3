/- Opening a mail: a struct of a letter (whose flags are a slice of texts), a place and a text. -/
import Derived.Test.YtmlmkcpdgcojlaaDoorMaI
import Derived.Test.YtmlmkcpdgcojlaaDoorOpenS
import Derived.Shelf.LaysM
import Derived.SizedLaws
namespace Go.Proofs.YtmlmkcpdgcojlaaDoor
open Go.ChangeShapes Go.WideShapes Go.ChangeAt Go.RowKit

theorem maxlen_cellM {W : World} (h : W.ShapedOpen Tryd.prog) : ∃ m, W.cell? ⟨0, 0, none⟩ = some (.int .i64 m) :=
  Go.Proofs.cell_of_shapedOpen_int (zero := #[.int .i64 0]) (t := 3) h (of_decide_eq_true (by kernel_rfl)) (by kernel_rfl) rfl (by kernel_rfl) (by kernel_rfl) Tryd.underlying3
theorem nat_u64 {n : Int} (h : (Lit.int .u64 n).wf = true) : ∃ k : Nat, n = (k : Int) := by
  have := bounds_u64 h
  exact ⟨n.toNat, by omega⟩
/-- the flags of a letter: a slice of texts tells what it holds -/
theorem open_flagsM {H : Type} {enc : TypeId × Value → H} {w : World} {base : Nat} {spare : Nat → Bool} {held : Bool} {cs : List Value} {y : DataW H × List MemPlace} {fuel : Nat} (h : DataW.trod enc Tryd.prog w base spare held fuel 24 cs = some y) :
    ∃ (a : Option Addr) (n c : Nat) (flag : ByteArray → Bool), cs = [.slice a n c] ∧ ∀ w', Below w.heap.size w w' → ∀ f : ByteArray, Calls Tryd.prog 21 #[.slice a n c, .string f] w' fun e w'' => e = .returned (.bool (flag f)) ∧ w'' = w' := by
  rcases open_strings Tryd.underlying24 Tryd.underlying9 (by kernel_rfl) h with ⟨hcs, _⟩ | ⟨a, len, cap, ss, hcs, _, hl, hm, hz, hx, hcell, hsz⟩
  · exact ⟨none, 0, 0, fun _ => false, hcs, fun w' _ f => Tryd.slices_Contains_string_empty _ _ _ _⟩
  · rcases Nat.eq_zero_or_pos len with h0 | h0
    · subst h0
      exact ⟨some a, 0, cap, fun _ => false, hcs, fun w' _ f => Tryd.slices_Contains_string_empty _ _ _ _⟩
    · have hle : len ≤ ss.length := by rw [hz]; split <;> omega
      obtain ⟨hs, hb⟩ := cell_spot (hcell 0 (by omega))
      have e0 : a.add 0 = a := rfl
      rw [e0] at hs hb
      refine ⟨some a, len, cap, fun f => Lib.containsS (ss.take len) f, hcs, fun w' hbel f => ?_⟩
      have ha : ∀ i, a.add i = ⟨a.block, a.off + i, none⟩ := fun i => by
        cases a with
        | mk x y z => simp at hs; subst hs; exact Addr.add_lit ..
      have haa : a = ⟨a.block, a.off, none⟩ := by cases a; simp at hs; subst hs; rfl
      rw [haa]
      have hm' : cap ≤ 9223372036854775807 := hm
      refine Tryd.slices_Contains_string a.block a.off len cap ss f w' hle (by omega) (fun j hj => ?_)
      have := hcell j hj
      rw [ha] at this
      exact (hbel.cell (p := ⟨a.block, a.off + j, none⟩) hb).trans this
theorem open_u64 {H : Type} {enc : TypeId × Value → H} {w : World} {base : Nat} {spare : Nat → Bool} {held : Bool} {cs : List Value} {y : DataW H × List MemPlace} {fuel : Nat} (h : DataW.trod enc Tryd.prog w base spare held fuel 23 cs = some y) :
    ∃ n : Nat, cs = [.int .u64 n] := by
  obtain ⟨n, hcs, _, hw⟩ := DataW.trod_int Tryd.underlying23 h
  obtain ⟨k, rfl⟩ := nat_u64 hw
  exact ⟨k, hcs⟩
theorem trod_field {H : Type} {enc : TypeId × Value → H} {P : Program} {w : World} {base : Nat} {spare : Nat → Bool} {held : Bool} {m : Nat} {fs : Array Field} {cs : List Value} {xs : List (DataW H × List MemPlace)}
    (h : ∀ (i : Nat) (f : Field), fs[i]? = some f → DataW.trod enc P w base spare held m f.type ((cs.drop f.offset).take (P.cellsOf f.type)) = xs[i]?) (i : Nat) {f : Field} {t o n : Nat} {cs' : List Value} {x : DataW H × List MemPlace}
    (hf : fs[i]? = some f) (ht : f.type = t) (ho : f.offset = o) (hc : P.cellsOf t = n) (hcs : (cs.drop o).take n = cs') (hx : xs[i]? = some x) : DataW.trod enc P w base spare held m t cs' = some x := by
  subst ht ho hc hcs
  rw [h i f hf, hx]
theorem cells_u64 : Tryd.prog.cellsOf 23 = 1 := by kernel_rfl
theorem cells_str : Tryd.prog.cellsOf 9 = 1 := by kernel_rfl
theorem cells_strs : Tryd.prog.cellsOf 24 = 1 := by kernel_rfl
set_option maxHeartbeats 2000000 in
/-- a mail, as a parameter -/
theorem open_mail {H : Type} {enc : TypeId × Value → H} {w : World} {r : Reach} {b base : Nat} {spare : Nat → Bool} {held : Bool} {v : Value} {d : DataW H} {p : List MemPlace}
    (hv : Value.okWide Tryd.prog w r b 30 v) (h : DataW.Trod enc Tryd.prog w base spare held 30 v d p) :
    ∃ x pl s, v = mailV x pl s ∧ FlagIn w x ∧ s.size ≤ 9223372036854775807 ∧ ∃ a b : DataW H, d = .agg [a, b, .lit (.string s.data.toList)] := by
  obtain ⟨cs, rfl, hsz⟩ := okWide_struct Tryd.underlying30 hv
  rw [show Tryd.prog.cellsOf 30 = 9 by kernel_rfl] at hsz
  obtain ⟨l⟩ := cs
  have hl : l.length = 9 := by simpa using hsz
  match l, hl with
  | [c0, c1, c2, c3, c4, c5, c6, c7, c8], _ =>
    obtain ⟨fuel, hf⟩ := h
    simp only [Value.cells] at hf
    obtain ⟨xs, m, _, hxd, _, hx, hall⟩ := DataW.trod_struct Tryd.underlying30 hf
    match xs, hx with
    | [x0, x1, x2], _ =>
      have g0 := trod_field hall 0 (t := 26) (o := 0) (cs' := [c0, c1, c2, c3, c4]) rfl rfl rfl (show Tryd.prog.cellsOf 26 = 5 by kernel_rfl) rfl rfl
      have g1 := trod_field hall 1 (t := 28) (o := 5) (cs' := [c5, c6, c7]) rfl rfl rfl (show Tryd.prog.cellsOf 28 = 3 by kernel_rfl) rfl rfl
      have g2 := trod_field hall 2 (t := 9) (o := 8) (cs' := [c8]) rfl rfl rfl cells_str rfl rfl
      obtain ⟨ys, m1, _, _, _, hy, hall1⟩ := DataW.trod_struct Tryd.underlying26 g0
      obtain ⟨zs, m2, _, _, _, hz, hall2⟩ := DataW.trod_struct Tryd.underlying28 g1
      match ys, hy, zs, hz with
      | [y0, y1, y2, y3, y4], _, [z0, z1, z2], _ =>
        obtain ⟨uid, e0⟩ := open_u64 (trod_field hall1 0 (o := 0) (cs' := [c0]) rfl rfl rfl cells_u64 rfl rfl)
        obtain ⟨fa, fn, fc, flag, e1, hflag⟩ := open_flagsM (trod_field hall1 1 (o := 1) (cs' := [c1]) rfl rfl rfl cells_strs rfl rfl)
        obtain ⟨md, e2⟩ := open_u64 (trod_field hall1 2 (o := 2) (cs' := [c2]) rfl rfl rfl cells_u64 rfl rfl)
        obtain ⟨hash, e3, _, _⟩ := DataW.trod_string Tryd.underlying9 (trod_field hall1 3 (o := 3) (cs' := [c3]) rfl rfl rfl cells_str rfl rfl)
        obtain ⟨size, e4⟩ := open_u64 (trod_field hall1 4 (o := 4) (cs' := [c4]) rfl rfl rfl cells_u64 rfl rfl)
        obtain ⟨q0, e5⟩ := open_u64 (trod_field hall2 0 (o := 0) (cs' := [c5]) rfl rfl rfl cells_u64 rfl rfl)
        obtain ⟨q1, e6⟩ := open_u64 (trod_field hall2 1 (o := 1) (cs' := [c6]) rfl rfl rfl cells_u64 rfl rfl)
        obtain ⟨q2, e7⟩ := open_u64 (trod_field hall2 2 (o := 2) (cs' := [c7]) rfl rfl rfl cells_u64 rfl rfl)
        obtain ⟨s, e8, hs2, hs⟩ := DataW.trod_string Tryd.underlying9 g2
        simp only [List.cons.injEq, and_true] at e0 e1 e2 e3 e4 e5 e6 e7 e8
        subst e0 e1 e2 e3 e4 e5 e6 e7 e8
        exact ⟨⟨uid, fa, fn, fc, md, hash, size, flag⟩, ⟨q0, q1, q2⟩, s, rfl, hflag, hs, x0.1, x1.1, by rw [(Prod.mk.inj hxd).1]; show DataW.agg [x0.1, x1.1, x2.1] = _; rw [hs2]⟩
/-- a mail's text is no longer than the form's own reach -/
theorem mail_bound {H : Type} {ts : List TypeId} {ds : List (DataW H)} {d a b : DataW H} {s : ByteArray} (h : (DataW.weightsEach Tryd.prog ts ds).all (· ≤ reachBytes) = true) {j : Nat} (ht : ts[j]? = some 30) (hd : ds[j]? = some d) (he : d = .agg [a, b, .lit (.string s.data.toList)]) : s.size ≤ reachBytes := by
  subst he
  have := List.all_eq_true.1 h _ (DataW.weights_mem_each ht hd s.data.toList.length (by simp [DataW.weights, Tryd.underlying30, DataW.weightsEach]))
  simpa using this
/-- the walk as the card calls it -/
theorem matchFlags_card (f : ByteArray) (v : Value) (_ : f.size ≤ reachBytes) (w : World) (hv : ∃ x pl s, v = mailV x pl s ∧ FlagIn w x ∧ s.size ≤ 9223372036854775807 ∧ s.size ≤ reachBytes) (hm : ∃ m, w.cell? ⟨0, 0, none⟩ = some (.int .i64 m)) :
    Calls Tryd.prog 5 #[.string f, v] w fun e w' => e = .returned (.bool true) ∧ Below w.heap.size w w' := by
  obtain ⟨x, pl, s, rfl, hf, hs, _⟩ := hv
  exact matchFlags_any f x pl s hs w hf hm
end Go.Proofs.YtmlmkcpdgcojlaaDoor
