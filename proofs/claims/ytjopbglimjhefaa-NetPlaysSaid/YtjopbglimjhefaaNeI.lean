/- A net in memory; its links' keys; link, New, Tick, Now: walked. -/
import Derived.Test.YtjopbglimjhefaaNeH
import Derived.DeepKeys4
import Derived.Maps.OwnSet
import Derived.Maps.OwnOps
import Derived.Maps.Views
namespace Go.Proofs.Ytjopbglimjhefaa
open Go.RowKit Go.Maps Go.WideMaps

theorem net_laid : laidOutB Try.prog = true := by kernel_rfl
theorem net_row : (57 : TypeId) < Try.prog.types.size := of_decide_eq_true (by kernel_rfl)
theorem net_wide : (match Try.prog.underlying 57 with | some (.array _ _) | some (.struct _) => true | _ => false) = true := by rw [Try.underlying57]
set_option maxRecDepth 100000 in
theorem net_key : Keyed Try.prog 57 := Keyed.of_law (deep_law_laid net_laid (m := 2) (by omega) net_row (by kernel_rfl) net_wide)
def keyL (a c : Int) : Lit := .string (keyBytes [.int .i64 a, .int .i64 c])
def Lk (a c : Int) : Prop := 1 ≤ a ∧ a < c ∧ c ≤ 5
theorem Lk.cases {a c : Int} (h : Lk a c) : (a = 1 ∧ c = 2) ∨ (a = 1 ∧ c = 3) ∨ (a = 1 ∧ c = 4) ∨ (a = 1 ∧ c = 5) ∨ (a = 2 ∧ c = 3) ∨ (a = 2 ∧ c = 4) ∨ (a = 2 ∧ c = 5) ∨ (a = 3 ∧ c = 4) ∨ (a = 3 ∧ c = 5) ∨ (a = 4 ∧ c = 5) := by unfold Lk at h; omega
theorem keyL_of {a c : Int} (h : Lk a c) : keyOf Try.prog 57 (.agg #[.int .i64 a, .int .i64 c]) = some (keyL a c) := by
  rcases h.cases with ⟨rfl, rfl⟩ | ⟨rfl, rfl⟩ | ⟨rfl, rfl⟩ | ⟨rfl, rfl⟩ | ⟨rfl, rfl⟩ | ⟨rfl, rfl⟩ | ⟨rfl, rfl⟩ | ⟨rfl, rfl⟩ | ⟨rfl, rfl⟩ | ⟨rfl, rfl⟩ <;> kernel_rfl
theorem keyL_inj {a c a' c' : Int} (h : Lk a c) (h' : Lk a' c') (e : keyL a c = keyL a' c') : a = a' ∧ c = c' := by
  rcases h.cases with ⟨rfl, rfl⟩ | ⟨rfl, rfl⟩ | ⟨rfl, rfl⟩ | ⟨rfl, rfl⟩ | ⟨rfl, rfl⟩ | ⟨rfl, rfl⟩ | ⟨rfl, rfl⟩ | ⟨rfl, rfl⟩ | ⟨rfl, rfl⟩ | ⟨rfl, rfl⟩ <;>
  rcases h'.cases with ⟨rfl, rfl⟩ | ⟨rfl, rfl⟩ | ⟨rfl, rfl⟩ | ⟨rfl, rfl⟩ | ⟨rfl, rfl⟩ | ⟨rfl, rfl⟩ | ⟨rfl, rfl⟩ | ⟨rfl, rfl⟩ | ⟨rfl, rfl⟩ | ⟨rfl, rfl⟩ <;>
  first
    | exact ⟨rfl, rfl⟩
    | exact absurd (Lit.string.inj e) (by decide)
theorem zeroBool (w : World) : (zeroValue 4).run Try.prog w = .ok (.bool false) w := by kernel_rfl
abbrev DM := DataW Unit
noncomputable abbrev RB : Value → Option (DM × List MemPlace) := plainElem Try.prog 4
/-- the map D says which links are cut -/
def CutsD (D : DM) (C : Int → Int → Bool) : Prop := ∀ a c, Lk a c → D.atKey (keyL a c) (.lit (.bool false)) = .lit (.bool (C a c))
def setC (C : Int → Int → Bool) (a c : Int) (x : Bool) : Int → Int → Bool := fun a' c' => if a' = a ∧ c' = c then x else C a' c'
theorem CutsD.put {D : DM} {C : Int → Int → Bool} (h : CutsD D C) (hm : IsMap D) {a c : Int} (hl : Lk a c) (x : Bool) : CutsD (D.put (keyL a c) (.lit (.bool x))) (setC C a c x) := fun a' c' hl' => by
  unfold setC
  by_cases e : a' = a ∧ c' = c
  · obtain ⟨rfl, rfl⟩ := e
    rw [if_pos ⟨rfl, rfl⟩, atKey_put_same hm (by unfold keyL; trivial)]
  · rw [if_neg e, atKey_put_other (fun k => e (keyL_inj hl' hl k))]
    exact h a' c' hl'
theorem CutsD.del {D : DM} {C : Int → Int → Bool} (h : CutsD D C) {a c : Int} (hl : Lk a c) : CutsD (D.del (keyL a c)) (setC C a c false) := fun a' c' hl' => by
  unfold setC
  by_cases e : a' = a ∧ c' = c
  · obtain ⟨rfl, rfl⟩ := e
    rw [if_pos ⟨rfl, rfl⟩, atKey_del_same]
  · rw [if_neg e, atKey_del_other (fun k => e (keyL_inj hl' hl k))]
    exact h a' c' hl'
theorem CutsD.none : CutsD (.map []) (fun _ _ => false) := fun _ _ _ => rfl
/-- a net in block b: its flight, the time, the greatest number, the map m -/
structure NetAt (W : World) (b m : Nat) (v : Value) (l : List Pk) (now last N : Nat) (C : Int → Int → Bool) : Prop where
  fl : Fl W b v l
  now : W.cell? ⟨b, 1, none⟩ = some (.int .i64 now)
  last : W.cell? ⟨b, 2, none⟩ = some (.int .i64 last)
  cut : W.cell? ⟨b, 3, none⟩ = some (.map (some m))
  f1 : W.frozen? ⟨b, 1, none⟩ = false
  f2 : W.frozen? ⟨b, 2, none⟩ = false
  map : ∃ D : DM, W.ownsMap Try.prog 57 RB m N D ∧ CutsD D C
  mb : m ≠ b
  mv : v.ownBlock ≠ some m
/-- all but the net is as it was -/
structure NSame (W : World) (b m : Nat) (v : Value) (W' : World) : Prop where
  os : W'.os = W.os
  tape : W'.tape = W.tape
  output : W'.output = W.output
  size : W.heap.size ≤ W'.heap.size
  block : ∀ k, k < W.heap.size → k ≠ b → k ≠ m → v.ownBlock ≠ some k → W'.heap[k]? = W.heap[k]?
theorem NSame.refl (W : World) (b m : Nat) (v : Value) : NSame W b m v W := ⟨rfl, rfl, rfl, Nat.le_refl _, fun _ _ _ _ _ => rfl⟩
theorem NSame.trans {W W' W2 : World} {b m : Nat} {v v' : Value} (h : NSame W b m v W') (hl : Later W v v') (k : NSame W' b m v' W2) : NSame W b m v W2 :=
  ⟨k.os.trans h.os, k.tape.trans h.tape, k.output.trans h.output, Nat.le_trans h.size k.size, fun x hx h1 h2 h3 => (k.block x (Nat.lt_of_lt_of_le hx h.size) h1 h2 (fun h5 => by
    rcases hl x h5 with h4 | h4
    · exact h3 h4
    · omega)).trans (h.block x hx h1 h2 h3)⟩
theorem NSame.of_below {W W' : World} (h : Below W.heap.size W W') (b m : Nat) (v : Value) : NSame W b m v W' := ⟨h.os, h.tape, h.output, h.size, fun k hk _ _ _ => h.block k hk⟩
theorem NSame.of_f {W W' : World} {b m : Nat} {v : Value} (h : FSame W b v W') : NSame W b m v W' := ⟨h.os, h.tape, h.output, h.size, fun k hk h1 _ h3 => h.block k hk h1 h3⟩
theorem Fl.lt {W : World} {b : Nat} {v : Value} {l : List Pk} (h : Fl W b v l) : b < W.heap.size := World.block_lt_of_cell? W ⟨b, 0, none⟩ h.1
theorem OwnP.lt {W : World} {v : Value} {l : List Pk} (h : OwnP W v l) {g : Nat} (hg : v.ownBlock = some g) : g < W.heap.size := (World.ownsRow.lt h g hg).2
theorem Fl.below {W W' : World} {b : Nat} {v : Value} {l : List Pk} (h : Fl W b v l) (hb : Below W.heap.size W W') : Fl W' b v l := by
  have hk := hb.block b h.lt
  refine ⟨(World.cell?_of_block hk).trans h.1, (World.frozen?_of_block hk).trans h.2.1, ?_, h.2.2.2⟩
  exact World.ownsRow.kept (row := none) h.2.2.1 ⟨hb.os, hb.tape, hb.output, hb.size, fun k hk _ => hb.block k hk⟩ (by cases hv : v.ownBlock <;> simp)
theorem ownsMap_block {W W' : World} {m N : Nat} {D : DM} (h : W.ownsMap Try.prog 57 RB m N D) (hk : W'.heap[m]? = W.heap[m]?) : W'.ownsMap Try.prog 57 RB m N D := by
  obtain ⟨es, clock, hb, F, hn, hD⟩ := h
  exact ⟨es, clock, hk.trans hb, F, hn, hD⟩
theorem NetAt.below {W W' : World} {b m : Nat} {v : Value} {l : List Pk} {now last N : Nat} {C : Int → Int → Bool} (h : NetAt W b m v l now last N C) (hb : Below W.heap.size W W') : NetAt W' b m v l now last N C := by
  have hk := hb.block b h.fl.lt
  obtain ⟨D, hm, hc⟩ := h.map
  exact ⟨h.fl.below hb, (World.cell?_of_block hk).trans h.now, (World.cell?_of_block hk).trans h.last, (World.cell?_of_block hk).trans h.cut, (World.frozen?_of_block hk).trans h.f1, (World.frozen?_of_block hk).trans h.f2, ⟨D, ownsMap_block hm (hb.block m hm.lt), hc⟩, h.mb, h.mv⟩
/-- the flight has turned, and nothing else of the net -/
theorem NetAt.flown {W W' : World} {b m : Nat} {v v' : Value} {l l' : List Pk} {now last N : Nat} {C : Int → Int → Bool} (h : NetAt W b m v l now last N C) (hf : Fl W' b v' l') (hs : FSame W b v W') (hl : Later W v v') : NetAt W' b m v' l' now last N C := by
  obtain ⟨D, hm, hc⟩ := h.map
  exact ⟨hf, (hs.cell 1 (by decide)).trans h.now, (hs.cell 2 (by decide)).trans h.last, (hs.cell 3 (by decide)).trans h.cut, (hs.free 1).trans h.f1, (hs.free 2).trans h.f2, ⟨D, ownsMap_block hm (hs.block m hm.lt h.mb h.mv), hc⟩, h.mb, fun e => by
    rcases hl m e with h1 | h1
    · exact h.mv h1
    · have := hm.lt; omega⟩
theorem net_info : (Try.prog.info? 56).map (fun i => (i.size)) = some 4 := by kernel_rfl
/-- one of the net's own numbers is written -/
theorem NetAt.set {W : World} {b m : Nat} {v : Value} {l : List Pk} {now last N : Nat} {C : Int → Int → Bool} (h : NetAt W b m v l now last N C) (j x : Nat) (hj : j = 1 ∨ j = 2) : NetAt (W.setCell ⟨b, j, none⟩ (.int .i64 x)) b m v l (if j = 1 then x else now) (if j = 2 then x else last) N C ∧ NSame W b m v (W.setCell ⟨b, j, none⟩ (.int .i64 x)) := by
  obtain ⟨D, hm, hc⟩ := h.map
  have hs : (W.setCell ⟨b, j, none⟩ (.int .i64 x)).heap.size = W.heap.size := by simp
  have hk : ∀ k, k ≠ b → (W.setCell ⟨b, j, none⟩ (.int .i64 x)).heap[k]? = W.heap[k]? := fun k h1 => heap_setCell_other W ⟨b, j, none⟩ k _ h1
  have hfr : ∀ i, (W.setCell ⟨b, j, none⟩ (.int .i64 x)).frozen? ⟨b, i, none⟩ = W.frozen? ⟨b, i, none⟩ := fun i => by simp
  have hot : ∀ i, i ≠ j → (W.setCell ⟨b, j, none⟩ (.int .i64 x)).cell? ⟨b, i, none⟩ = W.cell? ⟨b, i, none⟩ := fun i hi => World.cell?_setCell_other _ _ _ _ (fun e => hi (by injection e with _ e2; exact e2.symm))
  have hown : OwnP (W.setCell ⟨b, j, none⟩ (.int .i64 x)) v l := by
    refine World.ownsRow.kept (row := some b) h.fl.2.2.1 ⟨rfl, rfl, rfl, by rw [hs]; exact Nat.le_refl _, fun k _ hkb => hk k (fun e => hkb (by rw [e]))⟩ ?_
    exact .inr h.fl.2.2.2
  refine ⟨⟨⟨(hot 0 (by omega)).trans h.fl.1, (hfr 0).trans h.fl.2.1, hown, h.fl.2.2.2⟩, ?_, ?_, (hot 3 (by omega)).trans h.cut, (hfr 1).trans h.f1, (hfr 2).trans h.f2, ⟨D, ownsMap_block hm (hk m h.mb), hc⟩, h.mb, h.mv⟩, ⟨rfl, rfl, rfl, by rw [hs]; exact Nat.le_refl _, fun k _ h1 _ _ => hk k h1⟩⟩
  · rcases hj with rfl | rfl
    · exact World.cell?_setCell_same _ _ _ h.now
    · exact (hot 1 (by decide)).trans h.now
  · rcases hj with rfl | rfl
    · exact (hot 2 (by decide)).trans h.last
    · exact World.cell?_setCell_same _ _ _ h.last
end Go.Proofs.Ytjopbglimjhefaa
