/- MailNumbers: what its walk holds of states, of the map, and of what an operation leaves. -/
import Derived.Test.YtdobbfjmlnlieaaGreatB37
import Derived.Test.YtdobbfjmlnlieaaGreatB27
import Derived.Test.YtdobbfjmlnlieaaGreatB19
import Derived.Test.YtdobbfjmlnlieaaGreatB22
namespace Go.Proofs.YtdobbfjmlnlieaaGreat
set_option linter.unusedSimpArgs false
open Go.RowKit

theorem RqsIn.cells_at3 {W : World} {v : Value} {l : List RqP} (h : RqsIn W v l) {j : Nat} (hj : j < l.length) : ∃ b bo cap, v = .slice (some ⟨b, bo, none⟩) l.length cap ∧ b < W.heap.size ∧
    ∀ W', Below W.heap.size W W' → ∀ r u, (rqCells l[j].1 l[j].2)[r]? = some u → W'.cell? ⟨b, bo + j * 17 + r, none⟩ = some u := by
  obtain ⟨b, bo, cap, hv, -, hbl, hc⟩ := rqT.rd_cells h.1 hj
  refine ⟨b, bo, cap, hv, hbl, fun W' hb r u hu => ?_⟩
  rw [Nat.add_assoc]
  exact (hb.cell (p := ⟨b, bo + (j * 17 + r), none⟩) hbl).trans (hc r u hu)
theorem mem4 {L : List Nat} {a b c d : Nat} (ha : a ∈ L) (hb : b ∈ L) (hc : c ∈ L) (hd : d ∈ L) : ∀ x ∈ [a, b, c, d], x ∈ L := fun x hx => by
  rcases List.mem_cons.1 hx with rfl | hx
  · exact ha
  rcases List.mem_cons.1 hx with rfl | hx
  · exact hb
  rcases List.mem_cons.1 hx with rfl | hx
  · exact hc
  · rw [List.mem_singleton.1 hx]; exact hd
/-- but for block B and what is new nothing has turned -/
structure MapStep (B : Nat) (w w' : World) : Prop where
  size : w.heap.size ≤ w'.heap.size
  block : ∀ k, k < w.heap.size → k ≠ B → w'.heap[k]? = w.heap[k]?
theorem MapStep.refl (B : Nat) (w : World) : MapStep B w w := ⟨Nat.le_refl _, fun _ _ _ => rfl⟩
theorem MapStep.trans {B : Nat} {a b c : World} (h : MapStep B a b) (k : MapStep B b c) : MapStep B a c := ⟨Nat.le_trans h.size k.size, fun j hj hn => (k.block j (Nat.lt_of_lt_of_le hj h.size) hn).trans (h.block j hj hn)⟩
theorem MapStep.of_below {B : Nat} {w w' : World} (h : Below w.heap.size w w') : MapStep B w w' := ⟨h.size, fun k hk _ => h.block k hk⟩
theorem MapAt.cell_ne {W : World} {B n : Nat} {F : Notes} (h : MapAt W B n F) {p : Addr} {v : Value} (hc : W.cell? p = some v) : p.block ≠ B := by
  intro e
  obtain ⟨D, ⟨es, clock, hb, -⟩, -⟩ := h
  obtain ⟨pb, po, ps⟩ := p
  dsimp only at e
  subst e
  simp [World.cell?, hb] at hc
theorem MapStep.cell {W W' : World} {B n : Nat} {F : Notes} (hs : MapStep B W W') (h : MapAt W B n F) {p : Addr} {v : Value} (hc : W.cell? p = some v) : W'.cell? p = some v := by
  have h1 := World.block_lt_of_cell? W p hc
  have h2 := hs.block p.block h1 (h.cell_ne hc)
  rw [← hc]
  exact World.cell?_of_block (w := W) h2
theorem Rd.mapStep {W W' : World} {B n0 : Nat} {F : Notes} (hs : MapStep B W W') (hm : MapAt W B n0 F) {v : Value} {n : Nat} {cs : List Value} (h : Rd W v n cs) : Rd W' v n cs := by
  obtain ⟨ao, cap, hv, h | ⟨b, o, ha, hlt, hle, hc⟩⟩ := h
  · exact ⟨ao, cap, hv, .inl h⟩
  · exact ⟨ao, cap, hv, .inr ⟨b, o, ha, Nat.lt_of_lt_of_le hlt hs.size, hle, fun i u hu => hs.cell hm (hc i u hu)⟩⟩
theorem LtsIn.mapStep {W W' : World} {B n0 : Nat} {F : Notes} (hs : MapStep B W W') (hm : MapAt W B n0 F) {v : Value} {l : List LtV} (h : LtsIn W v l) : LtsIn W' v l := ⟨h.1.mapStep hs hm, fun y hy => Rd.mapStep hs hm (h.2 y hy)⟩
theorem Stay.mapStep {ok : Nat → Prop} {W W' : World} {P : World → Prop} {B : Nat} (h : Stay ok W P) (hs : MapStep B W W') (hB : ∀ k, ok k → k ≠ B) : Stay ok W' P := h.on hs.size (fun k hk hl => hs.block k hl (hB k hk))
/-- a state in block MB, what was noted in block B -/
def HoldsN (W : World) (MB B n : Nat) (F : Notes) (m : Ml) (wr : World) : Prop := ∃ C : List Value, Zoo W wr [boxT MB C.toArray 27, mapT B n F] ∧ Stay (okL [MB, B]) wr (fun x => MlIn x (.agg C.toArray) m)
theorem HoldsS.noted {W wr : World} {MB : Nat} {m : Ml} (h : HoldsS W MB m wr) : HoldsN W MB wr.heap.size 0 note0 m (wr.alloc (.map #[] 0)) := by
  obtain ⟨C, hz, hs⟩ := h
  refine ⟨C, hz.newMap.swap, (hs.weak (fun k hk h b hb => ?_)).below ((Below.refl _ _).alloc (Nat.le_refl _) _)⟩
  rcases List.mem_cons.1 hb with rfl | hb
  · exact h
  · rw [List.mem_singleton.1 hb]; exact Nat.ne_of_lt hk
/-- .. two states, an outcome, what was noted -/
def ApN (W : World) (MB TB OB B n : Nat) (F : Notes) (m1 m2 : Ml) (o2 : Oc) (wx : World) : Prop := ∃ C D O : List Value, Zoo W wx [boxT OB O.toArray 35, boxT TB D.toArray 27, boxT MB C.toArray 27, mapT B n F] ∧ Stay (okL [MB, TB, OB, B]) wx (fun x => MlIn x (.agg C.toArray) m1) ∧ Stay (okL [MB, TB, OB, B]) wx (fun x => MlIn x (.agg D.toArray) m2) ∧ Stay (okL [MB, TB, OB, B]) wx (fun x => OcIn x (.agg O.toArray) o2)
theorem ApN.below {W : World} {MB TB OB B n : Nat} {F : Notes} {m1 m2 : Ml} {o2 : Oc} {w w' : World} (h : ApN W MB TB OB B n F m1 m2 o2 w) (hb : Below w.heap.size w w') : ApN W MB TB OB B n F m1 m2 o2 w' := by
  obtain ⟨C, D, O, hz, hc, hd, ho⟩ := h
  exact ⟨C, D, O, hz.below hb, hc.below hb, hd.below hb, ho.below hb⟩
theorem OcIn.shape {W : World} {O : List Value} {o : Oc} (h : OcIn W (.agg O.toArray) o) : ∃ aU cU aM cM, O = [.int .i64 o.code, .int .u64 o.session, .int .u64 o.validity, .slice aU o.uids.length cU, .slice aM o.mods.length cM] ∧ Rd W (.slice aU o.uids.length cU) o.uids.length (o.uids.map encU) := by
  obtain ⟨aU, cU, aM, cM, e, h1, -⟩ := h
  injection e with e
  exact ⟨aU, cU, aM, cM, congrArg Array.toList e, by rw [← cells_u64]; exact h1⟩
theorem BoxP.nmsz {b : Bx} {n : Nat} (h : BoxP b n) : b.name.size ≤ maxLen := by
  have h1 := h.ok
  unfold boxOk at h1
  simp only [Bool.and_eq_true, decide_eq_true_eq] at h1
  have h2 : b.name.size = b.name.data.toList.length := by rw [Array.length_toList]; rfl
  unfold maxLen
  omega
theorem one_nk (a : ByteArray) (b c : Nat) : ∀ v ∈ ([.string a, .int .u64 (b : Int), .int .u64 (c : Int)] : List Value), v.oneCell' = true := fun v hv => by
  simp only [List.mem_cons, List.not_mem_nil, or_false] at hv
  rcases hv with rfl | rfl | rfl <;> rfl
end Go.Proofs.YtdobbfjmlnlieaaGreat
