/- Rows of structs of the call's own, of whatever type: what th; What mail is made of: letters, mailboxes, seats, homes, a st; slices; Flags among other things; things joined, merged, in another ; mail; mail -/
import Derived.Test.YtdobbfjmlnlieaaGreatA01
import Derived.Test.YtdobbfjmlnlieaaGreatProg
import Derived.Test.YtdobbfjmlnlieaaGreatChecked
import Derived.Sort.EncStr
import Derived.Laws.ResultCell
namespace Go.Proofs.YtdobbfjmlnlieaaGreat
set_option linter.unusedSimpArgs false
namespace Tryz
end Tryz
open Go.Proofs.Tryz Go.Proofs.YtdobbfjmlnlieaaGreat.Tryz
section
open Go.RowKit
theorem Kt {W : World} {b : Nat} {C : Array Value} {t : TypeId} (h : W.heap[b]? = some (.cells C t (0, 0))) (j : Nat) : W.cell? ⟨b, j, none⟩ = C[j]? := by simp [World.cell?, h]
theorem free_at {W : World} {b : Nat} {C : Array Value} {t : TypeId} (h : W.heap[b]? = some (.cells C t (0, 0))) (j : Nat) : W.frozen? ⟨b, j, none⟩ = false := by simp [World.frozen?, h]
theorem Bf {W : World} {g : Nat} {C : List Value} {t : TypeId} (h : W.heap[g]? = some (.cells C.toArray t (0, 0))) (j : Nat) (v : Value) : (W.setCell ⟨g, j, none⟩ v).heap[g]? = some (.cells (C.set j v).toArray t (0, 0)) := by
 simp only [World.setCell, Gc, h, if_true, Bi];rw [← List.setIfInBounds_toArray];rfl
structure RT (α : Type) where
 enc : α → List Value
 K : Nat
 t : TypeId
 ts : TypeId
 z : Value
 bytes : Nat
 len : ∀ x, (enc x).length = K
 one : ∀ x, ∀ u ∈ enc x, u.oneCell' = true
 pos : 0 < K
 und : prog.underlying ts = some (.slice t)
 info : (prog.info? t).map (fun i => (i.zero, i.size, i.bytes)) = some (some z, K, bytes)
 zs : z.cells.size = K
 bb : bytes ≤ 4096
section
variable {α : Type} (R : RT α)
def RT.cells (l : List α) : List Value := l.flatMap R.enc
theorem RT.kg : ∀ (l : List α), (R.cells l).length = l.length * R.K
 | [] => by simp [RT.cells]
 | k :: r => by
  have := RT.kg r;unfold RT.cells at this ⊢;rw [ql, bz, this, qc, R.len, A_];omega
theorem RT.yt (a b : List α) : R.cells (a ++ b) = R.cells a ++ R.cells b := List.flatMap_append
theorem RT.cells_one (l : List α) : ∀ u ∈ R.cells l, u.oneCell' = true := fun u hu => by
 obtain ⟨x, _, hx⟩ := List.mem_flatMap.1 hu;exact R.one x u hx
theorem RT.yo : ∀ (l : List α) (j : Nat) (hj : j < l.length) (r : Nat), r < R.K → (R.cells l)[j * R.K + r]? = (R.enc l[j])[r]?
 | k :: l, 0, _, r, hr => by
  unfold RT.cells;rw [ql, ko (by rw [R.len]; omega)];simp
 | k :: l, j + 1, hj, r, hr => by
  have := RT.yo l j (by simpa using hj) r hr;unfold RT.cells at this ⊢;rw [ql, lu (by rw [R.len, A_]; omega), List.getElem_cons_succ, ← this, R.len];congr 1;rw [A_]; omega
def RT.Own (W : World) (v : Value) (l : List α) : Prop := W.ownsRow 0 R.t R.K v l.length (R.cells l)
def RT.PR (W : World) (g : Nat) (l : List α) (rest : List Value) : Prop := W.heap[g]? = some (.cells (R.cells l ++ rest).toArray R.t (0, 0))
variable {R}
theorem RT.Own.len {W : World} {v : Value} {l : List α} (h : R.Own W v l) : ∃ a c, v = .slice a l.length c := by
 rcases h.2 with ⟨rfl, hn⟩ | ⟨g, cap, cur, rfl, _⟩
 ·exact ⟨none, 0, by rw [hn]⟩
 exact ⟨_, _, rfl⟩
theorem RT.Own.block {W W' : World} {v : Value} {l : List α} (h : R.Own W v l) (hk : ∀ g, v.ownBlock = some g → W'.heap[g]? = W.heap[g]?) : R.Own W' v l := by
 refine ⟨h.1, ?_⟩;rcases h.2 with h1 | ⟨g, cap, cur, h1, h2, h3, h4⟩
 ·exact .inl h1
 exact .inr ⟨g, cap, cur, h1, h2, (hk g (by rw [h1]; rfl)).trans h3, h4⟩
theorem RT.Own.lt {W : World} {v : Value} {l : List α} (h : R.Own W v l) {g : Nat} (hg : v.ownBlock = some g) : g < W.heap.size := (World.ownsRow.lt h g hg).2
theorem RT.Own.below {W W' : World} {v : Value} {l : List α} (h : R.Own W v l) (hb : Below W.heap.size W W') : R.Own W' v l := h.block (fun g hg => hb.block g (h.lt hg))
theorem RT.Own.rd {W : World} {v : Value} {l : List α} (h : R.Own W v l) : Rd W v l.length (R.cells l) := Rd.Lg h
theorem RT.Own.nil (R : RT α) (W : World) : R.Own W (.slice none 0 0) [] := World.ownsRow_nil _ _ _ _
theorem RT.Own.empty (R : RT α) (W : World) (n : Nat) (h : W.heap.size = n) : R.Own (W.alloc (.cells #[] R.t)) (.slice (some ⟨n, 0, none⟩) 0 0) [] := by
 subst h;exact ⟨by simp [RT.cells], .inr ⟨W.heap.size, 0, _, rfl, dw _, heap_alloc_new W _, ax _, by unfold maxLen; omega, by simp, by simp [RT.cells]⟩⟩
theorem RT.Own.one (R : RT α) (W : World) (x : α) (n : Nat) (h : W.heap.size = n) : R.Own (W.alloc (.cells (R.enc x).toArray R.t)) (.slice (some ⟨n, 0, none⟩) 1 1) [x] := by
 subst h;have hc : R.cells [x] = R.enc x := by simp [RT.cells]
 refine ⟨by rw [hc, R.len]; simp, .inr ⟨W.heap.size, 1, _, rfl, dw _, heap_alloc_new W _, ax _, by unfold maxLen; omega, by simp [R.len], ?_⟩⟩;rw [hc, jr (by simp [R.len])]
theorem RT.PR.cell {W : World} {g : Nat} {l : List α} {rest : List Value} (h : R.PR W g l rest) (j r : Nat) (hj : j < l.length) (hr : r < R.K) : W.cell? ⟨g, j * R.K + r, none⟩ = (R.enc l[j])[r]? := by
 rw [Kt h (j * R.K + r)];simp only [ai];have : j * R.K + r < l.length * R.K := by
  have h1 : (j + 1) * R.K ≤ l.length * R.K := kz _ hj;rw [A_] at h1; omega
 rw [ko (by rw [R.kg]; exact this), R.yo l j hj r hr]
theorem RT.PR.free {W : World} {g : Nat} {l : List α} {rest : List Value} (h : R.PR W g l rest) (j : Nat) : W.frozen? ⟨g, j, none⟩ = false := free_at h j
theorem RT.PR.put {W : World} {g : Nat} {l : List α} {rest : List Value} (h : R.PR W g l rest) (j r : Nat) (hj : j < l.length) (hr : r < R.K) (u : Value) (x : α) (hx : R.enc x = (R.enc l[j]).set r u) : R.PR (W.setCell ⟨g, j * R.K + r, none⟩ u) g (l.set j x) rest := by
 unfold RT.PR;rw [Bf (show W.heap[g]? = _ from h)];have hlt : j * R.K + r < l.length * R.K := by
  have h1 : (j + 1) * R.K ≤ l.length * R.K := kz _ hj;rw [A_] at h1; omega
 have e : (R.cells l ++ rest).set (j * R.K + r) u = R.cells (l.set j x) ++ rest := by
  rw [Ho _ _ (by rw [R.kg]; exact hlt)];congr 1;apply Fa;intro i;rw [cd_];by_cases hi : i < l.length * R.K
  ·have hK := R.pos;obtain ⟨m, q, hq, rfl⟩ : ∃ m q, q < R.K ∧ i = m * R.K + q := ⟨i / R.K, i % R.K, Gs _ hK, by rw [Cy]; exact (Qd i R.K).symm⟩;have hm : m < l.length := by
    rcases oo m l.length with h1 | h1
    ·exact h1
    have := kz R.K h1; omega
   rw [R.yo l m hm q hq, R.yo (l.set j x) m (by rw [gq]; exact hm) q hq, R.kg];by_cases hmj : j = m
   ·subst hmj;rw [Cc, hx, cd_];by_cases hrq : r = q
    ·subst hrq; rw [dh rfl, dh rfl, dh hlt, dh (by rw [R.len]; exact hr)]
    rw [bq hrq, bq (by omega)]
   rw [List.getElem_set_ne hmj, bq];intro e;rcases Nat.lt_or_gt_of_ne hmj with h1 | h1
   ·have := kz R.K (show j + 1 ≤ m from h1); rw [A_] at this; omega
   have := kz R.K (show m + 1 ≤ j from h1); rw [A_] at this; omega
  rw [bq (by omega), zb (by rw [R.kg]; omega), zb (by rw [R.kg, gq]; omega)]
 rw [e]
theorem RT.Own.row {W : World} {v : Value} {l : List α} (h : R.Own W v l) (hpos : 0 < l.length) : ∃ g cap rest, v = .slice (some ⟨g, 0, none⟩) l.length cap ∧ l.length ≤ cap ∧ g < W.heap.size ∧ R.PR W g l rest ∧ ∀ W' (l' : List α) n, n ≤ l.length → l'.length = l.length → R.PR W' g l' rest → R.Own W' (.slice (some ⟨g, 0, none⟩) n cap) (l'.take n) := by
 rcases h.2 with ⟨rfl, hn⟩ | ⟨g, cap, cur, rfl, hb, hg, hc, hm, hs, ht⟩
 ·omega
 refine ⟨g, cap, cur.toList.drop (l.length * R.K), rfl, hc, (bv.1 hg).1, ?_, ?_⟩
 ·unfold RT.PR;rw [← ht, qh];exact hg
 intro W' l' n hn hl hr;unfold RT.PR at hr;have e : R.cells l' = R.cells (l'.take n) ++ R.cells (l'.drop n) := by rw [← R.yt, qh]
 refine ⟨by rw [R.kg], .inr ⟨g, cap, _, by rw [bf, Nat.min_eq_left (by omega)], hb, hr, by rw [bf]; omega, hm, ?_, ?_⟩⟩
 ·have h1 := R.kg l';have h2 : cur.toList.length = cur.size := rfl;simp only [List.size_toArray, bz, iq, h1, h2, hl];have h3 : cur.size = cap * R.K := hs;have h4 := kz R.K hc;omega
 rw [List.toList_toArray, e, jd, List.take_left' (R.kg _)]
def RT.row (R : RT α) (v : Value) (l : List α) : Th := ⟨fun F W => R.Own W v l ∧ ∀ k, F k ↔ v.ownBlock = some k, fun _ _ h k hk => h.1.lt ((h.2 k).1 hk), fun _ _ _ h hk => ⟨h.1.block (fun g hg => hk g ((h.2 g).2 hg)), h.2⟩⟩
theorem Zoo.own {W0 W : World} {L : List Th} {v : Value} {l : List α} (h : Zoo W0 W L) (i : Nat) (hi : L[i]? = some (R.row v l)) : R.Own W v l := by
 obtain ⟨F, h1, _⟩ := h.get i _ hi;exact h1.1
theorem RT.Own.cells {W : World} {v : Value} {l : List α} (h : R.Own W v l) {j : Nat} (hj : j < l.length) : ∃ g cap, v = .slice (some ⟨g, 0, none⟩) l.length cap ∧ l.length ≤ cap ∧ g < W.heap.size ∧ ∀ r, r < R.K → W.cell? ⟨g, j * R.K + r, none⟩ = (R.enc l[j])[r]? := by
 obtain ⟨g, cap, rest, hv, hc, hg, hr, -⟩ := h.row (by omega);exact ⟨g, cap, hv, hc, hg, fun r hr1 => hr.cell j r hj hr1⟩
theorem Zoo.newRow {W0 W W' : World} {L : List Th} (h : Zoo W0 W L) (hb : Below W.heap.size W W') {v : Value} {l : List α} (ho : R.Own W' v l) (hf : ∀ g, v.ownBlock = some g → W.heap.size ≤ g) : Zoo W0 W' (R.row v l :: L) :=
 h.more hb _ (fun k => v.ownBlock = some k) ⟨ho, fun _ => j6⟩ hf
theorem iy {W W' : World} {v v' : Value} {F : Je} (hF : ∀ k, F k ↔ v.ownBlock = some k) (hg : W.grownBy W' v.ownBlock) (hat : ∀ g, v'.ownBlock = some g → v.ownBlock = some g ∨ W.heap.size ≤ g) : Ej F W (fun k => v'.ownBlock = some k) W' :=
 ⟨hg.os, hg.tape, hg.output, hg.size, fun k hk hn => hg.block k hk (fun e => hn ((hF k).2 e.symm)), fun k hk => (hat k hk).imp_left (fun h => (hF k).2 h)⟩
theorem bb_ {W : World} {v : Value} {F : Je} (hF : ∀ k, F k ↔ v.ownBlock = some k) {g j : Nat} (hg : v.ownBlock = some g) (u : Value) {v' : Value} (hv : ∀ k, v'.ownBlock = some k → v.ownBlock = some k) : Ej F W (fun k => v'.ownBlock = some k) (W.setCell ⟨g, j, none⟩ u) :=
 ⟨rfl, rfl, rfl, by simp, fun k hk hn => heap_setCell_other W ⟨g, j, none⟩ k _ (fun e => hn ((hF k).2 (by rw [e]; exact hg))), fun k hk => .inl ((hF k).2 (hv k hk))⟩
theorem Zoo.Fh {W0 W : World} {L : List Th} {v : Value} {l : List α} (h : Zoo W0 W L) (i : Nat) (hi : L[i]? = some (R.row v l)) (j : Nat) (hj : j < l.length) (r : Nat) (hr : r < R.K) (u : Value) (x : α) (hx : R.enc x = (R.enc l[j]).set r u) :
  ∃ g cap, v = .slice (some ⟨g, 0, none⟩) l.length cap ∧ W0.heap.size ≤ g ∧ g < W.heap.size ∧ (∀ r, r < R.K → W.cell? ⟨g, j * R.K + r, none⟩ = (R.enc l[j])[r]?) ∧ (∀ k, W.frozen? ⟨g, k, none⟩ = false) ∧ Zoo W0 (W.setCell ⟨g, j * R.K + r, none⟩ u) (L.set i (R.row v (l.set j x))) := by
 obtain ⟨F, ⟨ho, hF⟩, hlow, hact⟩ := h.act i _ hi;obtain ⟨g, cap, rest, rfl, -, hg, hrow, hback⟩ := ho.row (by omega);have h2 := hback _ _ l.length (ax _) (by rw [gq]) (hrow.put j r hj hr u x hx);rw [jr (by rw [gq]; exact ax _)] at h2;exact ⟨g, cap, rfl, hlow g ((hF g).2 rfl), hg, fun r hr1 => hrow.cell j r hj hr1, hrow.free, hact _ _ _ ⟨h2, fun _ => j6⟩ (bb_ hF rfl u (fun k hk => hk))⟩
structure o_ (W : World) (g : Nat) (W' : World) : Prop where
 os : W'.os = W.os
 tape : W'.tape = W.tape
 output : W'.output = W.output
 size : W'.heap.size = W.heap.size
 block : ∀ k, k ≠ g → W'.heap[k]? = W.heap[k]?
theorem o_.refl (W : World) (g : Nat) : o_ W g W := ⟨rfl, rfl, rfl, rfl, fun _ _ => rfl⟩
theorem o_.set {W W' : World} {g : Nat} (h : o_ W g W') (j : Nat) (u : Value) : o_ W g (W'.setCell ⟨g, j, none⟩ u) :=
 ⟨h.os, h.tape, h.output, by simpa using h.size, fun k hk => (heap_setCell_other W' ⟨g, j, none⟩ k _ hk).trans (h.block k hk)⟩
theorem o_.grows {W W' : World} {g : Nat} {v : Value} {F : Je} (h : o_ W g W') (hF : ∀ k, F k ↔ v.ownBlock = some k) (hv : v.ownBlock = some g) : Ej F W F W' :=
 ⟨h.os, h.tape, h.output, yw h.size.symm, fun k _ hn => h.block k (fun e => hn ((hF k).2 (by rw [e]; exact hv))), fun _ hk => .inl hk⟩
set_option maxHeartbeats 4000000 in
theorem RT.PR.Xp {W : World} {g : Nat} {l : List α} {rest : List Value} (h : R.PR W g l rest) (hK : R.K = 5) (j : Nat) (hj : j < l.length) (x : α) (u0 u1 u2 u3 u4 : Value) (hx : R.enc x = [u0, u1, u2, u3, u4]) :
  R.PR (((((W.setCell ⟨g, j * 5, none⟩ u0).setCell ⟨g, j * 5 + 1, none⟩ u1).setCell ⟨g, j * 5 + 2, none⟩ u2).setCell ⟨g, j * 5 + 3, none⟩ u3).setCell ⟨g, j * 5 + 4, none⟩ u4) g (l.set j x) rest := by
 have hlen : (R.cells l).length = l.length * 5 := by rw [R.kg, hK]
 have hl2 : (R.cells (l.set j x)).length = l.length * 5 := by rw [R.kg, gq, hK]
 have e : ((((((R.cells l ++ rest).set (j * 5) u0).set (j * 5 + 1) u1).set (j * 5 + 2) u2).set (j * 5 + 3) u3).set (j * 5 + 4) u4) = R.cells (l.set j x) ++ rest := by
  apply Fa;intro i;simp only [cd_, gq, bz, hlen];by_cases hi : i < l.length * 5
  ·obtain ⟨m, r, hr, rfl⟩ : ∃ m r, r < 5 ∧ i = m * 5 + r := ⟨i / 5, i % 5, Gs _ (by decide), by omega⟩;have g1 := R.yo l m (by omega) r (by omega);have g2 := R.yo (l.set j x) m (by rw [gq]; omega) r (by omega);rw [hK] at g1 g2;rw [ko (by omega), ko (by omega), g1, g2];by_cases hm : j = m
   ·subst hm;rw [Cc, hx];have h5 : r = 0 ∨ r = 1 ∨ r = 2 ∨ r = 3 ∨ r = 4 := (by omega);rcases h5 with rfl | rfl | rfl | rfl | rfl;all_goals simp
    all_goals omega
   rw [List.getElem_set_ne hm];rw [bq (by omega), bq (by omega), bq (by omega), bq (by omega), bq (by omega)]
  rw [lu (by omega), lu (by omega), hlen, hl2];rw [bq (by omega), bq (by omega), bq (by omega), bq (by omega), bq (by omega)]
 unfold RT.PR;rw [← e];exact Bf (Bf (Bf (Bf (Bf (show W.heap[g]? = _ from h) _ _) _ _) _ _) _ _) _ _
theorem Zoo.Xp {W0 W : World} {L : List Th} {v : Value} {l : List α} (h : Zoo W0 W L) (i : Nat) (hi : L[i]? = some (R.row v l)) (hK : R.K = 5) (j : Nat) (hj : j < l.length) (x : α) (u0 u1 u2 u3 u4 : Value) (hx : R.enc x = [u0, u1, u2, u3, u4]) :
  ∃ g cap, v = .slice (some ⟨g, 0, none⟩) l.length cap ∧ W0.heap.size ≤ g ∧ g < W.heap.size ∧ (∀ r, r < 5 → W.cell? ⟨g, j * 5 + r, none⟩ = (R.enc l[j])[r]?) ∧ (∀ k, W.frozen? ⟨g, k, none⟩ = false) ∧ Zoo W0 (((((W.setCell ⟨g, j * 5, none⟩ u0).setCell ⟨g, j * 5 + 1, none⟩ u1).setCell ⟨g, j * 5 + 2, none⟩ u2).setCell ⟨g, j * 5 + 3, none⟩ u3).setCell ⟨g, j * 5 + 4, none⟩ u4) (L.set i (R.row v (l.set j x))) := by
 obtain ⟨F, ⟨ho, hF⟩, hlow, hact⟩ := h.act i _ hi;obtain ⟨g, cap, rest, rfl, -, hg, hrow, hback⟩ := ho.row (by omega);have h2 := hback _ _ l.length (ax _) (by rw [gq]) (hrow.Xp hK j hj x u0 u1 u2 u3 u4 hx);rw [jr (by rw [gq]; exact ax _)] at h2;have hk := (((((o_.refl W g).set (j * 5) u0).set (j * 5 + 1) u1).set (j * 5 + 2) u2).set (j * 5 + 3) u3).set (j * 5 + 4) u4;refine ⟨g, cap, rfl, hlow g ((hF g).2 rfl), hg, fun r hr1 => by have := hrow.cell j r hj (by omega); rwa [hK] at this, hrow.free, hact _ F _ ⟨h2, hF⟩ (hk.grows hF rfl)⟩
theorem RT.ja (R : RT α) {w : World} {ops : Array Oper} {rest : List Oper} {o : Oper} {a : Act} {Q : Exit → Act → World → Prop} (hgd : o.guard = none) (s x : Operand)
  (ho : o.op = .call { callee := .builtin .append, args := #[s, x], argTypes := #[R.ts, R.ts] })
  (v v2 : Value) (l news : List α) (hs : a.eval s = v) (hx : a.eval x = v2) (hown : R.Own w v l) (h2 : Rd w v2 news.length (R.cells news)) (hlen : l.length + news.length ≤ 1000000)
  (h : ∀ v' w', R.Own w' v' (l ++ news) → w.grownBy w' v.ownBlock → (∀ g, v'.ownBlock = some g → v.ownBlock = some g ∨ w.heap.size ≤ g) → wpList prog ops Q rest (a.put o.dst v') w') : wpList prog ops Q (o :: rest) a w := by
 have hbb := R.bb;refine Ch hgd s x R.ts ho 0 R.t _ R.K R.bytes R.und R.info R.zs R.pos v v2 l.length news.length (R.cells l) (R.cells news) hs hx hown h2 (R.kg _) (R.cells_one _) (by unfold maxLen; omega) (by
  have := Nat.mul_le_mul (show l.length + news.length ≤ 1000000 from hlen) hbb;omega) (dw _) ?_
 intro v' w' ho' hg' hat;refine h v' w' ?_ hg' hat;unfold RT.Own;rw [bz, R.yt];exact ho'
theorem RT.jv (R : RT α) {w : World} {ops : Array Oper} {o : Oper} {a : Act} {K : Act → World → Prop} {Q : Exit → Act → World → Prop} {E : Prop} (hgd : o.guard = none) (s x : Operand)
  (ho : o.op = .call { callee := .builtin .append, args := #[s, x], argTypes := #[R.ts, R.ts] })
  (v v2 : Value) (l news : List α) (hs : a.eval s = v) (hx : a.eval x = v2) (hown : R.Own w v l) (h2 : Rd w v2 news.length (R.cells news)) (hlen : l.length + news.length ≤ 1000000)
  (h : ∀ v' w', R.Own w' v' (l ++ news) → w.grownBy w' v.ownBlock → (∀ g, v'.ownBlock = some g → v.ownBlock = some g ∨ w.heap.size ≤ g) → K (a.put o.dst v') w') :
  if Region.wanted o (yielded ops a.tmps) = true then Oper.wp prog o a w K Q else E := by
 have hw : Region.wanted o (yielded ops a.tmps) = true := by simp [Region.wanted, hgd]
 rw [dh hw];have hbb := R.bb;refine J_ s x R.ts ho 0 R.t _ R.K R.bytes R.und R.info R.zs R.pos v v2 l.length news.length (R.cells l) (R.cells news) hs hx hown h2 (R.kg _) (R.cells_one _) (by unfold maxLen; omega) (by
  have := Nat.mul_le_mul (show l.length + news.length ≤ 1000000 from hlen) hbb;omega) (dw _) ?_
 intro v' w' ho' hg' hat;refine h v' w' ?_ hg' hat;unfold RT.Own;rw [bz, R.yt];exact ho'
theorem RT.Yx (R : RT α) {W : World} {ao : Option Addr} {cap : Nat} {l : List α} (h : Rd W (.slice ao l.length cap) l.length (R.cells l)) (i : Nat) (hi : i ≤ l.length) : Rd W (.slice ao i cap) (l.take i).length (R.cells (l.take i)) := by
 obtain ⟨ao', cap', hv', h1⟩ := h;injection hv' with e1 e2 e3;subst e1 e3;have hli : (l.take i).length = i := by rw [bf]; omega
 rw [hli];refine ⟨_, _, rfl, ?_⟩;rcases h1 with h1 | ⟨b, o, hb, hlt, hle, hc⟩
 ·left; omega
 right;refine ⟨b, o, hb, hlt, by omega, fun j u hu => hc j u ?_⟩;have e : R.cells l = R.cells (l.take i) ++ R.cells (l.drop i) := by rw [← R.yt, qh]
 rw [e, ko]
 ·exact hu
 exact (jl.1 hu).1
theorem RT.Yy (R : RT α) {W : World} {g o cap : Nat} {l : List α} (h : Rd W (.slice (some ⟨g, o, none⟩) l.length cap) l.length (R.cells l)) (i cap2 : Nat) (hi : i ≤ l.length) (hc2 : l.length - i ≤ cap2) (n : Nat) (hn : n = l.length - i) : Rd W (.slice (some ⟨g, o + i * R.K, none⟩) n cap2) (l.drop i).length (R.cells (l.drop i)) := by
 subst hn;obtain ⟨ao', cap', hv', h1⟩ := h;injection hv' with e1 e2 e3;subst e1 e3;have hli : (l.drop i).length = l.length - i := iq;rw [hli];refine ⟨_, _, rfl, ?_⟩;rcases h1 with h1 | ⟨b, o', hb, hlt, hle, hc⟩
 ·left; omega
 right;injection hb with hb;injection hb with hb1 hb2 _;subst hb1 hb2;refine ⟨g, o + i * R.K, rfl, hlt, hc2, fun j u hu => ?_⟩;have := hc (i * R.K + j) u (by
  have e : R.cells l = R.cells (l.take i) ++ R.cells (l.drop i) := by rw [← R.yt, qh]
  have e2 : (R.cells (l.take i)).length = i * R.K := by rw [R.kg, bf]; congr 1; omega
  rw [e, lu (by omega), e2, Nk];exact hu)
 rwa [← qa] at this
theorem RT.ow (R : RT α) {W : World} {v : Value} {l : List α} (h : Rd W v l.length (R.cells l)) {j : Nat} (hj : j < l.length) : ∃ b o cap, v = .slice (some ⟨b, o, none⟩) l.length cap ∧ l.length ≤ cap ∧ b < W.heap.size ∧ ∀ r u, (R.enc l[j])[r]? = some u → W.cell? ⟨b, o + (j * R.K + r), none⟩ = some u := by
 obtain ⟨ao, cap, rfl, h1⟩ := h;rcases h1 with h1 | ⟨b, o, rfl, hlt, hle, hc⟩
 ·omega
 refine ⟨b, o, cap, rfl, hle, hlt, fun r u hu => hc _ u ?_⟩;have hr : r < R.K := by have := (jl.1 hu).1; rwa [R.len] at this
 rw [R.yo l j hj r hr]; exact hu
end
end
section
open Go.RowKit
structure Lt where
 uid : Nat
 flags : List (List UInt8)
 mod : Nat
 hash : ByteArray
 size : Nat
structure Bx where
 name : ByteArray
 ag : Nat
 next : Nat
 high : Nat
 letters : List Lt
structure St where
 session : Nat
 last : Nat
 node : Int
 life : Nat
 ek : Nat
structure Hm where
 node : Int
 life : Nat
 ek : Nat
structure Ml where
 boxes : List Bx
 nv : Nat
 homes : List Hm
 seats : List St
 ns : Nat
 a_ : Nat
structure LtV where
 x : Lt
 a : Option Addr
 c : Nat
def LtV.v (y : LtV) : Value := .slice y.a y.x.flags.length y.c
structure BxV where
 name : ByteArray
 ag : Nat
 next : Nat
 high : Nat
 rows : List LtV
 a : Option Addr
 c : Nat
def BxV.v (y : BxV) : Value := .slice y.a y.rows.length y.c
def BxV.b (y : BxV) : Bx := ⟨y.name, y.ag, y.next, y.high, y.rows.map LtV.x⟩
def nz (y : LtV) : List Value := [.int .u64 y.x.uid, y.v, .int .u64 y.x.mod, .string y.x.hash, .int .u64 y.x.size]
def rq (y : BxV) : List Value := [.string y.name, .int .u64 y.ag, .int .u64 y.next, .int .u64 y.high, y.v]
def Gg (x : St) : List Value := [.int .u64 x.session, .int .u64 x.last, .int .i64 x.node, .int .u64 x.life, .int .u64 x.ek]
def y8 (x : Hm) : List Value := [.int .i64 x.node, .int .u64 x.life, .int .u64 x.ek]
def ltT : RT LtV where
 enc := nz
 K := 5
 t := 50
 ts := 46
 z := .agg #[.int .u64 0, .slice none 0 0, .int .u64 0, .string ⟨#[]⟩, .int .u64 0]
 bytes := 64
 len := fun _ => rfl
 one := fun x u hu => by simp [nz, LtV.v] at hu; rcases hu with rfl | rfl | rfl | rfl | rfl <;> rfl
 pos := by decide
 und := underlying46
 info := by kernel_rfl
 zs := rfl
 bb := by decide
def bxT : RT BxV where
 enc := rq
 K := 5
 t := 48
 ts := 22
 z := .agg #[.string ⟨#[]⟩, .int .u64 0, .int .u64 0, .int .u64 0, .slice none 0 0]
 bytes := 64
 len := fun _ => rfl
 one := fun x u hu => by simp [rq, BxV.v] at hu; rcases hu with rfl | rfl | rfl | rfl | rfl <;> rfl
 pos := by decide
 und := underlying22
 info := by kernel_rfl
 zs := rfl
 bb := by decide
def stT : RT St where
 enc := Gg
 K := 5
 t := 69
 ts := 25
 z := .agg #[.int .u64 0, .int .u64 0, .int .i64 0, .int .u64 0, .int .u64 0]
 bytes := 40
 len := fun _ => rfl
 one := fun x u hu => by simp [Gg] at hu; rcases hu with rfl | rfl | rfl | rfl | rfl <;> rfl
 pos := by decide
 und := underlying25
 info := by kernel_rfl
 zs := rfl
 bb := by decide
def hmT : RT Hm where
 enc := y8
 K := 3
 t := 67
 ts := 24
 z := .agg #[.int .i64 0, .int .u64 0, .int .u64 0]
 bytes := 24
 len := fun _ => rfl
 one := fun x u hu => by simp [y8] at hu; rcases hu with rfl | rfl | rfl <;> rfl
 pos := by decide
 und := underlying24
 info := by kernel_rfl
 zs := rfl
 bb := by decide
def Cq (W : World) (v : Value) (l : List (List UInt8)) : Prop := Rd W v l.length (l.map encStr)
def Ws (W : World) (l : List LtV) : Prop := ∀ y ∈ l, Cq W y.v y.x.flags
def ve (W : World) (v : Value) (l : List LtV) : Prop := Rd W v l.length (ltT.cells l) ∧ Ws W l
def Zp (W : World) (l : List BxV) : Prop := ∀ y ∈ l, ve W y.v y.rows
def zo (W : World) (v : Value) (l : List BxV) : Prop := Rd W v l.length (bxT.cells l) ∧ Zp W l
def z_ (W : World) (v : Value) (l : List St) : Prop := Rd W v l.length (stT.cells l)
def F_ (W : World) (v : Value) (l : List Hm) : Prop := Rd W v l.length (hmT.cells l)
theorem Ws.below {W W' : World} {l : List LtV} (h : Ws W l) (hb : Below W.heap.size W W') : Ws W' l := fun y hy => (h y hy).below hb
theorem ve.below {W W' : World} {v : Value} {l : List LtV} (h : ve W v l) (hb : Below W.heap.size W W') : ve W' v l := ⟨h.1.below hb, h.2.below hb⟩
theorem Zp.below {W W' : World} {l : List BxV} (h : Zp W l) (hb : Below W.heap.size W W') : Zp W' l := fun y hy => (h y hy).below hb
theorem zo.below {W W' : World} {v : Value} {l : List BxV} (h : zo W v l) (hb : Below W.heap.size W W') : zo W' v l := ⟨h.1.below hb, h.2.below hb⟩
def yg (vb : Value) (nv : Nat) (vh vs : Value) (ns sw : Nat) : Value := .agg #[vb, .int .u64 nv, vh, vs, .int .u64 ns, .int .u64 sw]
def pq (W : World) (v : Value) (m : Ml) : Prop := ∃ (vb vh vs : Value) (bs : List BxV), v = yg vb m.nv vh vs m.ns m.a_ ∧ bs.map BxV.b = m.boxes ∧ zo W vb bs ∧ F_ W vh m.homes ∧ z_ W vs m.seats
theorem pq.below {W W' : World} {v : Value} {m : Ml} (h : pq W v m) (hb : Below W.heap.size W W') : pq W' v m := by
 obtain ⟨vb, vh, vs, bs, h1, h2, h3, h4, h5⟩ := h;exact ⟨vb, vh, vs, bs, h1, h2, h3.below hb, jf h4 hb, jf h5 hb⟩
end
section
open Go.RowKit
def flT : RT (List UInt8) where
 enc := fun l => [encStr l]
 K := 1
 t := 9
 ts := 39
 z := .string ⟨#[]⟩
 bytes := 16
 len := fun _ => rfl
 one := fun x u hu => by simp at hu; subst hu; rfl
 pos := by decide
 und := underlying39
 info := by kernel_rfl
 zs := rfl
 bb := by decide
theorem Iu (l : List (List UInt8)) : flT.cells l = l.map encStr := by
 induction l with
 | nil => rfl
 | cons x r ih =>
  have h : flT.cells (x :: r) = encStr x :: flT.cells r := rfl;rw [h, ih]; rfl
theorem Cq.rd {W : World} {v : Value} {l : List (List UInt8)} (h : Cq W v l) : Rd W v l.length (flT.cells l) := by rw [Iu]; exact h
theorem Cq.Lg {W : World} {v : Value} {l : List (List UInt8)} (h : flT.Own W v l) : Cq W v l := by have := h.rd; rwa [Iu] at this
def Mc {α : Type} (R : RT α) (l : List α) (W : World) (e : Ending) (w' : World) : Prop := ∃ v', e = .returned v' ∧ Hid (R.Own w' v' l) ∧ Hid (Below W.heap.size W w') ∧ Hid (∀ g, v'.ownBlock = some g → W.heap.size ≤ g)
set_option maxRecDepth 100000 in
set_option maxHeartbeats 2000000 in
theorem Ih {W : World} {v : Value} {l : List _} (h : Rd W v l.length (flT.cells l)) (hl : l.length ≤ 100000) :
  Calls prog 88 #[v] W (Mc flT l W) := by
 have h0 := hi_ h;obtain ⟨ao, cap, rfl, h1⟩ := h;cases ao with
 | none =>
  have e : l = [] := by
   rcases h1 with h | ⟨b, o, h, _⟩
   ·exact eu h
   cases h
  subst e;clear h1;have he : ∀ W : World, (binOp .eql 39 (.slice none 0 cap) (.slice none 0 0)).run prog W = .ok (.bool true) W := fun _ => rfl;change Calls prog 88 #[.slice none 0 cap] W _;go_enter func88, ntmps88;go_wp2_with fail;go_ret;exact ⟨_, rfl, hi_ (RT.Own.nil _ _), hi_ (ae _ _), hi_ (fun g hg => by simp [Value.ownBlock] at hg)⟩
 | some p =>
  clear h1;have he : ∀ W : World, (binOp .eql 39 (.slice (some p) l.length cap) (.slice none 0 0)).run prog W = .ok (.bool false) W := fun _ => rfl;go_enter func88, ntmps88;go_wp2_with (at_builtin; refine flT.ja rfl (.tmp 5) (.tmp 6) rfl _ _ [] l rfl rfl (RT.Own.empty flT W W.heap.size rfl) (h0.out.below ((ae _ _).alloc (ax _) (.cells #[] 9))) (by simp; omega) ?_);intro v3 w4 hown hgr hat;have hb : Below W.heap.size W w4 := ((ae _ W).alloc (ax _) (.cells #[] 9)).grown hgr (by simp) (fun k hk => by simp [Value.ownBlock] at hk; omega);have hf : ∀ g, v3.ownBlock = some g → W.heap.size ≤ g := fun k hk => by
   rcases hat k hk with q | q
   ·simp [Value.ownBlock] at q; omega
   omega
  replace hb := hi_ hb;replace hf := hi_ hf;replace hown := hi_ hown;clear hgr hat;go_wp2_with fail;go_ret;exact ⟨_, rfl, hown, hb, hf⟩
set_option maxRecDepth 100000 in
set_option maxHeartbeats 2000000 in
theorem Nc {W : World} {v : Value} {l : List _} (h : Rd W v l.length (ltT.cells l)) (hl : l.length ≤ 100000) :
  Calls prog 90 #[v] W (Mc ltT l W) := by
 have h0 := hi_ h;obtain ⟨ao, cap, rfl, h1⟩ := h;cases ao with
 | none =>
  have e : l = [] := by
   rcases h1 with h | ⟨b, o, h, _⟩
   ·exact eu h
   cases h
  subst e;clear h1;have he : ∀ W : World, (binOp .eql 46 (.slice none 0 cap) (.slice none 0 0)).run prog W = .ok (.bool true) W := fun _ => rfl;change Calls prog 90 #[.slice none 0 cap] W _;go_enter func90, ntmps90;go_wp2_with fail;go_ret;exact ⟨_, rfl, hi_ (RT.Own.nil _ _), hi_ (ae _ _), hi_ (fun g hg => by simp [Value.ownBlock] at hg)⟩
 | some p =>
  clear h1;have he : ∀ W : World, (binOp .eql 46 (.slice (some p) l.length cap) (.slice none 0 0)).run prog W = .ok (.bool false) W := fun _ => rfl;go_enter func90, ntmps90;go_wp2_with (at_builtin; refine ltT.ja rfl (.tmp 5) (.tmp 6) rfl _ _ [] l rfl rfl (RT.Own.empty ltT W W.heap.size rfl) (h0.out.below ((ae _ _).alloc (ax _) (.cells #[] 50))) (by simp; omega) ?_);intro v3 w4 hown hgr hat;have hb : Below W.heap.size W w4 := ((ae _ W).alloc (ax _) (.cells #[] 50)).grown hgr (by simp) (fun k hk => by simp [Value.ownBlock] at hk; omega);have hf : ∀ g, v3.ownBlock = some g → W.heap.size ≤ g := fun k hk => by
   rcases hat k hk with q | q
   ·simp [Value.ownBlock] at q; omega
   omega
  replace hb := hi_ hb;replace hf := hi_ hf;replace hown := hi_ hown;clear hgr hat;go_wp2_with fail;go_ret;exact ⟨_, rfl, hown, hb, hf⟩
set_option maxRecDepth 100000 in
set_option maxHeartbeats 2000000 in
theorem Vv {W : World} {v : Value} {l : List _} (h : Rd W v l.length (bxT.cells l)) (hl : l.length ≤ 100000) :
  Calls prog 97 #[v] W (Mc bxT l W) := by
 have h0 := hi_ h;obtain ⟨ao, cap, rfl, h1⟩ := h;cases ao with
 | none =>
  have e : l = [] := by
   rcases h1 with h | ⟨b, o, h, _⟩
   ·exact eu h
   cases h
  subst e;clear h1;have he : ∀ W : World, (binOp .eql 22 (.slice none 0 cap) (.slice none 0 0)).run prog W = .ok (.bool true) W := fun _ => rfl;change Calls prog 97 #[.slice none 0 cap] W _;go_enter func97, ntmps97;go_wp2_with fail;go_ret;exact ⟨_, rfl, hi_ (RT.Own.nil _ _), hi_ (ae _ _), hi_ (fun g hg => by simp [Value.ownBlock] at hg)⟩
 | some p =>
  clear h1;have he : ∀ W : World, (binOp .eql 22 (.slice (some p) l.length cap) (.slice none 0 0)).run prog W = .ok (.bool false) W := fun _ => rfl;go_enter func97, ntmps97;go_wp2_with (at_builtin; refine bxT.ja rfl (.tmp 5) (.tmp 6) rfl _ _ [] l rfl rfl (RT.Own.empty bxT W W.heap.size rfl) (h0.out.below ((ae _ _).alloc (ax _) (.cells #[] 48))) (by simp; omega) ?_);intro v3 w4 hown hgr hat;have hb : Below W.heap.size W w4 := ((ae _ W).alloc (ax _) (.cells #[] 48)).grown hgr (by simp) (fun k hk => by simp [Value.ownBlock] at hk; omega);have hf : ∀ g, v3.ownBlock = some g → W.heap.size ≤ g := fun k hk => by
   rcases hat k hk with q | q
   ·simp [Value.ownBlock] at q; omega
   omega
  replace hb := hi_ hb;replace hf := hi_ hf;replace hown := hi_ hown;clear hgr hat;go_wp2_with fail;go_ret;exact ⟨_, rfl, hown, hb, hf⟩
set_option maxRecDepth 100000 in
set_option maxHeartbeats 2000000 in
theorem Nb {W : World} {v : Value} {l : List _} (h : Rd W v l.length (stT.cells l)) (hl : l.length ≤ 100000) :
  Calls prog 78 #[v] W (Mc stT l W) := by
 have h0 := hi_ h;obtain ⟨ao, cap, rfl, h1⟩ := h;cases ao with
 | none =>
  have e : l = [] := by
   rcases h1 with h | ⟨b, o, h, _⟩
   ·exact eu h
   cases h
  subst e;clear h1;have he : ∀ W : World, (binOp .eql 25 (.slice none 0 cap) (.slice none 0 0)).run prog W = .ok (.bool true) W := fun _ => rfl;change Calls prog 78 #[.slice none 0 cap] W _;go_enter func78, ntmps78;go_wp2_with fail;go_ret;exact ⟨_, rfl, hi_ (RT.Own.nil _ _), hi_ (ae _ _), hi_ (fun g hg => by simp [Value.ownBlock] at hg)⟩
 | some p =>
  clear h1;have he : ∀ W : World, (binOp .eql 25 (.slice (some p) l.length cap) (.slice none 0 0)).run prog W = .ok (.bool false) W := fun _ => rfl;go_enter func78, ntmps78;go_wp2_with (at_builtin; refine stT.ja rfl (.tmp 5) (.tmp 6) rfl _ _ [] l rfl rfl (RT.Own.empty stT W W.heap.size rfl) (h0.out.below ((ae _ _).alloc (ax _) (.cells #[] 69))) (by simp; omega) ?_);intro v3 w4 hown hgr hat;have hb : Below W.heap.size W w4 := ((ae _ W).alloc (ax _) (.cells #[] 69)).grown hgr (by simp) (fun k hk => by simp [Value.ownBlock] at hk; omega);have hf : ∀ g, v3.ownBlock = some g → W.heap.size ≤ g := fun k hk => by
   rcases hat k hk with q | q
   ·simp [Value.ownBlock] at q; omega
   omega
  replace hb := hi_ hb;replace hf := hi_ hf;replace hown := hi_ hown;clear hgr hat;go_wp2_with fail;go_ret;exact ⟨_, rfl, hown, hb, hf⟩
set_option maxRecDepth 100000 in
set_option maxHeartbeats 2000000 in
theorem Vu {W : World} {v : Value} {l : List _} (h : Rd W v l.length (hmT.cells l)) (hl : l.length ≤ 100000) :
  Calls prog 96 #[v] W (Mc hmT l W) := by
 have h0 := hi_ h;obtain ⟨ao, cap, rfl, h1⟩ := h;cases ao with
 | none =>
  have e : l = [] := by
   rcases h1 with h | ⟨b, o, h, _⟩
   ·exact eu h
   cases h
  subst e;clear h1;have he : ∀ W : World, (binOp .eql 24 (.slice none 0 cap) (.slice none 0 0)).run prog W = .ok (.bool true) W := fun _ => rfl;change Calls prog 96 #[.slice none 0 cap] W _;go_enter func96, ntmps96;go_wp2_with fail;go_ret;exact ⟨_, rfl, hi_ (RT.Own.nil _ _), hi_ (ae _ _), hi_ (fun g hg => by simp [Value.ownBlock] at hg)⟩
 | some p =>
  clear h1;have he : ∀ W : World, (binOp .eql 24 (.slice (some p) l.length cap) (.slice none 0 0)).run prog W = .ok (.bool false) W := fun _ => rfl;go_enter func96, ntmps96;go_wp2_with (at_builtin; refine hmT.ja rfl (.tmp 5) (.tmp 6) rfl _ _ [] l rfl rfl (RT.Own.empty hmT W W.heap.size rfl) (h0.out.below ((ae _ _).alloc (ax _) (.cells #[] 67))) (by simp; omega) ?_);intro v3 w4 hown hgr hat;have hb : Below W.heap.size W w4 := ((ae _ W).alloc (ax _) (.cells #[] 67)).grown hgr (by simp) (fun k hk => by simp [Value.ownBlock] at hk; omega);have hf : ∀ g, v3.ownBlock = some g → W.heap.size ≤ g := fun k hk => by
   rcases hat k hk with q | q
   ·simp [Value.ownBlock] at q; omega
   omega
  replace hb := hi_ hb;replace hf := hi_ hf;replace hown := hi_ hown;clear hgr hat;go_wp2_with fail;go_ret;exact ⟨_, rfl, hown, hb, hf⟩
end
section
open Go.RowKit
def ma (S : List (Value × List (List UInt8))) : Th := ⟨fun F W => (∀ k, F k → k < W.heap.size) ∧ ∀ p ∈ S, ∃ ao cap, p.1 = .slice ao p.2.length cap ∧ (p.2 = [] ∨ ∃ b o, ao = some ⟨b, o, none⟩ ∧ F b ∧ p.2.length ≤ cap ∧ ∀ i u, (p.2.map encStr)[i]? = some u → W.cell? ⟨b, o + i, none⟩ = some u),
 fun F W h k hk => h.1 k hk,
 fun F W W' h hk => ⟨fun k hF => (by
  have h1 := hk k hF;have h2 := h.1 k hF;rcases oo k W'.heap.size with h3 | h3
  ·exact h3
  ·rw [Fb h3, ng h2] at h1; cases h1), fun p hp => by
  obtain ⟨ao, cap, hv, h1⟩ := h.2 p hp;refine ⟨ao, cap, hv, h1.imp id ?_⟩;rintro ⟨b, o, ha, hF, hc, hcell⟩;exact ⟨b, o, ha, hF, hc, fun i u hu => (World.cell?_of_block (hk b hF)).trans (hcell i u hu)⟩⟩⟩
variable {W0 W W' : World} {L L2 : List Th}
theorem Zoo.fl {S : List (Value × List (List UInt8))} (h : Zoo W0 W L) (i : Nat) (hi : L[i]? = some (ma S)) {v : Value} {l : List (List UInt8)} (hm : (v, l) ∈ S) : Cq W v l := by
 obtain ⟨F, h1, _⟩ := h.get i _ hi;obtain ⟨ao, cap, hv, h2⟩ := h1.2 _ hm;refine ⟨ao, cap, hv, ?_⟩;rcases h2 with h2 | ⟨b, o, ha, hF, hc, hcell⟩
 ·left; dsimp only at h2; rw [h2]; rfl
 exact .inr ⟨b, o, ha, h1.1 b hF, hc, hcell⟩
theorem Ir (h : Zoo W0 W L) : Zoo W0 W (ma [] :: L) := h.bare _ ⟨fun _ h => h.elim, fun p hp => by simp at hp⟩
theorem Zoo.Rz {S : List (Value × List (List UInt8))} (h : Zoo W0 W L) (i : Nat) (hi : L[i]? = some (ma S)) {v : Value} {l : List (List UInt8)} (hb : Below W.heap.size W W') (hr : Cq W' v l) (hf : ∀ g, v.ownBlock = some g → W.heap.size ≤ g) : Zoo W0 W' (L.set i (ma ((v, l) :: S))) := by
 obtain ⟨F, h1, hlow, hact⟩ := h.act i _ hi;obtain ⟨ao, cap, hv, hr⟩ := hr;refine hact _ (fun k => F k ∨ (W.heap.size ≤ k ∧ k < W'.heap.size)) W' ⟨fun k hk => ?_, fun p hp => ?_⟩ ⟨hb.os, hb.tape, hb.output, hb.size, fun k hk _ => hb.block k hk, fun k hk => hk.imp id (fun h => h.1)⟩
 ·rcases hk with hk | hk
  ·exact gy (h1.1 k hk) hb.size
  exact hk.2
 rcases d_.1 hp with rfl | hp
 ·refine ⟨ao, cap, hv, ?_⟩;rcases hr with hr | ⟨b, o, ha, hlt, hc, hcell⟩
  ·exact .inl (eu hr)
  exact .inr ⟨b, o, ha, .inr ⟨hf b (by rw [hv, ha]; rfl), hlt⟩, hc, hcell⟩
 obtain ⟨ao, cap, hv, h2⟩ := h1.2 p hp;refine ⟨ao, cap, hv, h2.imp id ?_⟩;rintro ⟨b, o, ha, hF, hc, hcell⟩;exact ⟨b, o, ha, .inl hF, hc, fun i u hu => (hb.cell (p := ⟨b, o + i, none⟩) (h1.1 b hF)).trans (hcell i u hu)⟩
theorem Zoo.join (h : Zoo W0 W L) (h2 : Zoo W W' L2) : Zoo W0 W' (L2 ++ L) := by
 obtain ⟨h0, P, h1, hP⟩ := h.below h2.bel;obtain ⟨g0, Q, g1, hQ⟩ := h2;obtain ⟨k0, P', k1, kP⟩ := h;refine ⟨h0, Q ++ P', by rw [fo, g1, k1], ⟨fun x hx => ?_, fun x hx k hk => ?_, ?_⟩⟩
 ·rcases fe.1 hx with hx | hx
  ·exact hQ.holds x hx
  exact x.1.below (kP.holds x hx) g0
 ·rcases fe.1 hx with hx | hx
  ·exact ed k0.size (hQ.low x hx k hk)
  exact kP.low x hx k hk
 refine j3.2 ⟨hQ.apart, kP.apart, fun x hx y hy k hk1 hk2 => ?_⟩;have a := hQ.low x hx k hk1;have b := y.1.lt _ _ (kP.holds y hy) k hk2;omega
theorem ag_ {α β : Type} (f : α → β) : ∀ {L L' : List β}, L.Perm L' → ∀ P : List α, P.map f = L → ∃ P', P.Perm P' ∧ P'.map f = L' := fun h => by
 induction h with
 | nil => intro P hP; exact ⟨P, List.Perm.refl _, hP⟩
 | cons x _ ih =>
  intro P hP;match P, hP with
  | p :: P, hP =>
   simp only [yx, uy] at hP;obtain ⟨P', h1, h2⟩ := ih P hP.2;exact ⟨p :: P', h1.cons p, by rw [yx, h2, hP.1]⟩
 | swap x y l =>
  intro P hP;match P, hP with
  | p :: q :: P, hP =>
   simp only [yx, uy] at hP;exact ⟨q :: p :: P, List.Perm.swap q p P, by simp only [yx, hP.1, hP.2.1, hP.2.2]⟩
 | trans _ _ ih1 ih2 =>
  intro P hP;obtain ⟨P1, h1, h2⟩ := ih1 P hP;obtain ⟨P2, h3, h4⟩ := ih2 P1 h2;exact ⟨P2, h1.trans h3, h4⟩
theorem Zoo.perm {L' : List Th} (h : Zoo W0 W L) (hp : L.Perm L') : Zoo W0 W L' := by
 obtain ⟨h0, P, h1, h2⟩ := h;obtain ⟨P', hP, h3⟩ := ag_ Prod.fst hp P h1;exact ⟨h0, P', h3, ⟨fun x hx => h2.holds x (hP.mem_iff.2 hx), fun x hx => h2.low x (hP.mem_iff.2 hx), hP.pairwise h2.apart (fun h k h1 h2 => h k h2 h1)⟩⟩
theorem Zoo.merge {a b c : Th} (h : Zoo W0 W (a :: b :: L)) (hm : ∀ F1 F2, a.holds F1 W → b.holds F2 W → c.holds (fun k => F1 k ∨ F2 k) W) : Zoo W0 W (c :: L) := by
 obtain ⟨h0, P, h1, h2⟩ := h;match P, h1 with
 | x :: y :: P, h1 =>
  simp only [yx, uy] at h1;obtain ⟨rfl, rfl, rfl⟩ := h1;have ha := h2.apart;simp only [jg, d_] at ha;refine ⟨h0, (c, fun k => x.2 k ∨ y.2 k) :: P, rfl, ⟨fun z hz => ?_, fun z hz k hk => ?_, ?_⟩⟩
  ·rcases d_.1 hz with rfl | hz
   ·exact hm _ _ (h2.holds x (by simp)) (h2.holds y (by simp))
   exact h2.holds z (by simp [hz])
  ·rcases d_.1 hz with rfl | hz
   ·rcases hk with hk | hk
    ·exact h2.low x (by simp) k hk
    exact h2.low y (by simp) k hk
   exact h2.low z (by simp [hz]) k hk
  refine jg.2 ⟨fun z hz k hk1 hk2 => ?_, ha.2.2⟩;rcases hk1 with hk1 | hk1
  ·exact ha.1 z (.inr hz) k hk1 hk2
  exact ha.2.1 z hz k hk1 hk2
theorem Vi {S S' : List (Value × List (List UInt8))} (h : Zoo W0 W (ma S :: ma S' :: L)) : Zoo W0 W (ma (S ++ S') :: L) :=
 h.merge (fun F1 F2 h1 h2 => ⟨fun k hk => by
  rcases hk with hk | hk
  ·exact h1.1 k hk
  ·exact h2.1 k hk, fun p hp => by
  rcases fe.1 hp with hp | hp
  ·obtain ⟨ao, cap, hv, h⟩ := h1.2 p hp;refine ⟨ao, cap, hv, h.imp id ?_⟩;rintro ⟨b, o, ha, hF, r⟩;exact ⟨b, o, ha, .inl hF, r⟩
  obtain ⟨ao, cap, hv, h⟩ := h2.2 p hp;refine ⟨ao, cap, hv, h.imp id ?_⟩;rintro ⟨b, o, ha, hF, r⟩;exact ⟨b, o, ha, .inr hF, r⟩⟩)
def Hg (S : List (Value × List (List UInt8))) (rows : List LtV) : Prop := ∀ y ∈ rows, (y.v, y.x.flags) ∈ S
def Pz (S : List (Value × List (List UInt8))) (bs : List BxV) : Prop := ∀ y ∈ bs, Hg S y.rows
theorem Zoo.gf_ {S : List (Value × List (List UInt8))} {rows : List LtV} (h : Zoo W0 W L) (i : Nat) (hi : L[i]? = some (ma S)) (hh : Hg S rows) : Ws W rows := fun y hy => h.fl i hi (hh y hy)
end
section
open Go.RowKit
attribute [local go_sem ↓] Go.wp_at_zero Go.wp_at_succ
def Gy (y : BxV) : Value := .agg (rq y).toArray
def Nh (l l' : List LtV) : Prop := l.map LtV.x = l'.map LtV.x
theorem Nh.len {l l' : List LtV} (h : Nh l l') : l.length = l'.length := by have := jk List.length h; simpa using this
theorem Zoo.il {W0 W : World} {L : List Th} {B : Nat} {C : List Value} {t : TypeId} (h : Zoo W0 W L) (i : Nat) (hi : L[i]? = some (df B C.toArray t)) (j : Nat) (u : Value) : Zoo W0 (W.setCell ⟨B, j, none⟩ u) (L.set i (df B (C.set j u).toArray t)) := by
 obtain ⟨F, ⟨h1, hF⟩, hlow, hact⟩ := h.act i _ hi;exact hact _ F _ ⟨Bf h1 j u, hF⟩ ⟨rfl, rfl, rfl, by simp, fun k hk hn => heap_setCell_other W ⟨B, j, none⟩ k _ (fun e => hn ((hF k).2 e)), fun k hk => .inl hk⟩
def Ni (W : World) (y : BxV) (e : Ending) (w' : World) : Prop := ∃ (z : BxV) (S : List (Value × List (List UInt8))), e = .returned (Gy z) ∧ Hid (z.b = y.b ∧ Hg S z.rows) ∧ Hid (Zoo W w' [ltT.row z.v z.rows, ma S])
set_option maxRecDepth 100000 in
set_option maxHeartbeats 8000000 in
theorem Kn (y : BxV) (W : World) (hin : ve W y.v y.rows) (hl : y.rows.length ≤ 100000) (hfl : ∀ z ∈ y.rows, z.x.flags.length ≤ 100000) :
  Calls prog 57 #[Gy y] W (Ni W y) := by
 obtain ⟨name, val, next, high, rows, a, c⟩ := y;dsimp only at hl hfl;have hin0 := hi_ (fun (W' : World) (h : Below W.heap.size W W') => hin.below h);have hz1 := ((ny W).dz [.string name, .int .u64 val, .int .u64 next, .int .u64 high, .slice a rows.length c].toArray 48).dz [.string ⟨#[]⟩, .int .u64 0, .int .u64 0, .int .u64 0, .slice none 0 0].toArray 48;have hs1 : (W.alloc (.cells [.string name, .int .u64 val, .int .u64 next, .int .u64 high, .slice a rows.length c].toArray 48)).heap.size = W.heap.size + 1 := by simp
 rw [hs1] at hz1;have hc := Nc (hin0.out _ hz1.bel).1 hl;replace hz1 := hi_ hz1;replace hc := hi_ hc;replace hfl := hi_ hfl;clear hin hs1;unfold Gy rq BxV.v;dsimp only;go_enter func57, ntmps57;go_wp2_with fail;refine hc.out.mono ?_;rintro e w2 ⟨v2, rfl, ho2, hb2, hf2⟩;have hz2 := hz1.out.newRow hb2.out ho2.out hf2.out;obtain ⟨a2, c2, hv2⟩ := ho2.out.len;obtain ⟨hbx, -⟩ := hz2.box 2 rfl;have c4 : w2.cell? ⟨W.heap.size, 4, none⟩ = some (.slice a rows.length c) := bc_ hbx 4;have f4 := bf_ hbx 4;have hz3 := hz2.il 2 rfl 4 v2;subst hv2;replace hz3 := hi_ hz3;clear hc hz1 hz2 ho2 hb2 hf2 hbx;go_wp2_with fail;replace hz3 : Hid (Zoo W (w2.setCell ⟨W.heap.size, 4, none⟩ (.slice a2 rows.length c2)) [ltT.row (.slice a2 rows.length c2) rows, df (W.heap.size + 1) [.string ⟨#[]⟩, .int .u64 0, .int .u64 0, .int .u64 0, .slice none 0 0].toArray 48, df W.heap.size [.string name, .int .u64 val, .int .u64 next, .int .u64 high, .slice a2 rows.length c2].toArray 48]) := hz3;have hz4 := hi_ ((Ir hz3.out).perm (List.Perm.swap _ _ _));clear hz3 c4 f4;generalize hB1 : W.heap.size = B1 at hz4 ⊢;replace hB1 := hi_ hB1;go_loopw [11] (fun v11 wr => ∃ (k : Nat) (done : List LtV) (S : List (Value × List (List UInt8))), v11 = .int .i64 k ∧ k ≤ rows.length ∧ Hid (done.length = k ∧ Nh done (rows.take k) ∧ Hg S done) ∧ Hid (Zoo W wr [ltT.row (.slice a2 rows.length c2) (done ++ rows.drop k), ma S, df (B1 + 1) [.string ⟨#[]⟩, .int .u64 0, .int .u64 0, .int .u64 0, .slice none 0 0].toArray 48, df B1 [.string name, .int .u64 val, .int .u64 next, .int .u64 high, .slice a2 rows.length c2].toArray 48])) (fun v11 _ => rows.length - (intOf v11).toNat);case atStart => exact ⟨0, [], [], rfl, dw _, hi_ ⟨rfl, rfl, fun y hy => by simp at hy⟩, hz4⟩
 case round =>
  clear hz4;obtain ⟨k, done, S, rfl, hk, hd, hz⟩ := hrel;have hlen : (done ++ rows.drop k).length = rows.length := by rw [bz, hd.out.1, iq]; omega
  by_cases hlt : k < rows.length
  ·have hl1 : (k : Int) < (rows.length : Int) := (by omega);have hget : (done ++ rows.drop k)[k]'(by omega) = rows[k] := by
    rw [K_ (by rw [hd.out.1]; exact ax _), Lc];congr 1;rw [hd.out.1]; omega
   obtain ⟨x, hx⟩ : ∃ x, rows[k] = x := ⟨_, rfl⟩;have hxm : x ∈ rows := (by rw [← hx]; exact bg hlt);obtain ⟨hbx, -⟩ := hz.out.box 3 rfl;have c4 : wr.cell? ⟨B1, 4, none⟩ = some (.slice a2 rows.length c2) := bc_ hbx 4;obtain ⟨g, cap, hv, hcap, hg, hcells⟩ := (hz.out.own 0 rfl).cells (j := k) (by omega);rw [hlen] at hv hcap;injection hv with e1 e2 e3;subst e1 e3;have r1 := hcells 1 (by decide);rw [hget, hx] at r1;replace r1 : wr.cell? ⟨g, k * 5 + 1, none⟩ = some x.v := r1;have hfr := (hin0.out wr hz.out.bel).2 x hxm;have hc := hi_ (Ih (hfr.rd.below ((ae _ wr).drew)) (hfl.out x hxm));obtain ⟨y, xa, xc⟩ := x;unfold LtV.v at hc r1;dsimp only at hc r1;have hbw : (g : Nat) = g := rfl;clear hcells hbx hfr;replace hx := hi_ hx;replace hget := hi_ hget;replace hlen := hi_ hlen;go_wp2_with fail;refine wr_ (fun w' => w'.cell? ⟨B1, 4, none⟩ = some (.slice (some ⟨g, 0, none⟩) rows.length c2) ∧ w'.cell? ⟨g, k * 5 + 1, none⟩ = some (.slice xa y.flags.length xc)) 10 3 ⟨c4, r1⟩ fun hok hS0 => ?_;refine av hok 0 ?_;refine av hok 1 ?_;refine av hok 2 ?_;refine av hok 3 ?_;refine av hok 4 ?_;refine av hok 5 ?_;refine av hok 6 ?_;refine av hok 7 ?_;refine av hok 8 ?_;refine g_ 9 fun K hK => ?_;go_simp;refine hc.out.mono ?_;rintro e w3 ⟨v3, rfl, ho3, hb3, hf3⟩;dsimp only;refine hK _ _ ⟨(hb3.out.cell (p := ⟨B1, 4, none⟩) (by have := (fu _ _ c4); exact this)).trans c4, (hb3.out.cell (p := ⟨g, k * 5 + 1, none⟩) hg).trans r1⟩ ?_;clear hK K;refine kw ?_;obtain ⟨a3, c3, hv3⟩ := ho3.out.len;have hz5 := hz.out.drew.Rz 1 rfl hb3.out (Cq.Lg ho3.out) hf3.out;obtain ⟨g', cap', hv, -, -, -, hfr, hz6⟩ := hz5.Fh 0 rfl k (by rw [hlen.out]; exact hlt) 1 (by decide) v3 ⟨y, a3, c3⟩ (by rw [hget.out, hx.out, hv3]; rfl);rw [hlen.out] at hv;injection hv with e1 e2 e3;injection e1 with e1;injection e1 with e1;subst e1;have f1 := hfr (k * 5 + 1);have r3 := (hb3.out.cell (p := ⟨g, k * 5 + 1, none⟩) hg).trans r1;have hd2 : Hid ((done ++ [(⟨y, a3, c3⟩ : LtV)]).length = k + 1 ∧ Nh (done ++ [(⟨y, a3, c3⟩ : LtV)]) (rows.take (k + 1)) ∧ Hg ((v3, y.flags) :: S) (done ++ [(⟨y, a3, c3⟩ : LtV)])) := hi_ (by
    refine ⟨by rw [bz, hd.out.1]; rfl, ?_, fun z hz => ?_⟩
    ·have := hd.out.2.1;unfold Nh at this ⊢;rw [ak hlt, fo, fo, this, hx.out]; rfl
    rcases fe.1 hz with hz | hz
    ·exact jh _ (hd.out.2.2 z hz)
    simp only [dx] at hz;subst hz;exact d_.2 (.inl (by rw [hv3]; rfl)))
   have hst : (done ++ rows.drop k).set k ⟨y, a3, c3⟩ = (done ++ [(⟨y, a3, c3⟩ : LtV)]) ++ rows.drop (k + 1) := by
    rw [t_ _ _ (by rw [hd.out.1]; exact ax _), hd.out.1, Nat.sub_self, pu hlt, jd]; rfl
   have hz7 : Hid (Zoo W (w3.setCell ⟨g, k * 5 + 1, none⟩ v3) [ltT.row (.slice (some ⟨g, 0, none⟩) rows.length c2) ((done ++ [(⟨y, a3, c3⟩ : LtV)]) ++ rows.drop (k + 1)), ma ((v3, y.flags) :: S), df (B1 + 1) [.string ⟨#[]⟩, .int .u64 0, .int .u64 0, .int .u64 0, .slice none 0 0].toArray 48, df B1 [.string name, .int .u64 val, .int .u64 next, .int .u64 high, .slice (some ⟨g, 0, none⟩) rows.length c2].toArray 48]) := hi_ (by rw [← hst]; exact hz6);subst hv3;clear hz hz5 hz6 hfr hst hc ho3 hb3 hf3 hok hS0 c4 r1 hd hx hget hlen;go_wp2_with fail;go_roundw;case rel => exact ⟨k + 1, _, _, by go_num, by omega, hd2, hz7⟩
   case measure => simp [intOf] <;> omega
  have hl1 : (rows.length : Int) ≤ (k : Int) := by omega
  obtain rfl : k = rows.length := by omega
  obtain ⟨hbx, -⟩ := hz.out.box 3 rfl;obtain ⟨hby, -⟩ := hz.out.box 2 rfl;obtain ⟨c0, c1, c2', c3, c4⟩ := bx5 hbx;obtain ⟨d0, d1, d2, d3, d4⟩ := bx5 hby
  have f0 := bf_ hby
  have hz5 := ((((hz.out.il 2 rfl 0 (.string name)).il 2 rfl 1 (.int .u64 val)).il 2 rfl 2 (.int .u64 next)).il 2 rfl 3 (.int .u64 high)).il 2 rfl 4 (.slice a2 rows.length c2);obtain ⟨hbz, -⟩ := hz5.box 2 rfl;rw [wy, jy] at hz5;have hz6 := hi_ (hz5.sub (L' := [ltT.row (.slice a2 rows.length c2) done, ma S]) (by simp));replace hbz := hi_ hbz;clear hz5 hz hbx hby
  go_wp2_with fail;refine bodyPost_ret (results_cell_row rfl _ _ _ 48 _ (0, 0) _ rfl hbz.out underlying48 rfl rfl) rfl ?_;have hdl : done.length = rows.length := hd.out.1;have hsame := hd.out.2.1;rw [gp] at hsame;refine ⟨⟨name, val, next, high, done, a2, c2⟩, S, by simp [Gy, rq, BxV.v, hdl], hi_ ⟨?_, hd.out.2.2⟩, hi_ ?_⟩
  ·unfold BxV.b;dsimp only;rw [show done.map LtV.x = rows.map LtV.x from hsame]
  unfold BxV.v;dsimp only;rw [hdl]; exact hz6.out
end
section
open Go.RowKit
attribute [local go_sem ↓] Go.wp_at_zero Go.wp_at_succ
def qi (bs : List BxV) : List Th := bs.map fun y => ltT.row y.v y.rows
def zk (vb vh vs : Value) (bs : List BxV) (hs : List Hm) (ss : List St) (S : List (Value × List (List UInt8))) : List Th :=
 bxT.row vb bs :: hmT.row vh hs :: stT.row vs ss :: ma S :: qi bs
structure Ik (m : Ml) : Prop where
 boxes : m.boxes.length ≤ 1000
 homes : m.homes.length ≤ 1000
 seats : m.seats.length ≤ 1000
 letters : ∀ b ∈ m.boxes, b.letters.length ≤ 10000
 flags : ∀ b ∈ m.boxes, ∀ x ∈ b.letters, x.flags.length ≤ 10000
def Wt (W : World) (m : Ml) (e : Ending) (w' : World) : Prop := ∃ (vb vh vs : Value) (bs : List BxV) (S : List (Value × List (List UInt8))), e = .returned (yg vb m.nv vh vs m.ns m.a_) ∧ Hid (bs.map BxV.b = m.boxes ∧ Pz S bs) ∧ Hid (Zoo W w' (zk vb vh vs bs m.homes m.seats S))
theorem Xb {W0 W : World} {vb vh vs : Value} {bs : List BxV} {hs : List Hm} {ss : List St} {S : List (Value × List (List UInt8))} (h : Zoo W0 W (zk vb vh vs bs hs ss S)) (hh : Pz S bs) : zo W vb bs := by
 refine ⟨(h.own 0 rfl).rd, fun y hy => ?_⟩;obtain ⟨i, hi, e⟩ := gu.1 hy;have h1 : (zk vb vh vs bs hs ss S)[i + 4]? = some (ltT.row y.v y.rows) := by
  show (qi bs)[i]? = _;unfold qi;rw [ji, ay hi, e]; rfl
 exact ⟨(h.own (i + 4) h1).rd, h.gf_ 3 rfl (hh y hy)⟩
theorem Rc {W0 W : World} {vb vh vs : Value} {bs : List BxV} {m : Ml} {S : List (Value × List (List UInt8))} (h : Zoo W0 W (zk vb vh vs bs m.homes m.seats S)) (hh : Pz S bs) (hb : bs.map BxV.b = m.boxes) : pq W (yg vb m.nv vh vs m.ns m.a_) m :=
 ⟨vb, vh, vs, bs, rfl, hb, Xb h hh, (h.own 1 rfl).rd, (h.own 2 rfl).rd⟩
theorem Yi {W0 W : World} {A B C D E R : Th} {S S' : List (Value × List (List UInt8))} {lets : List Th} (h : Zoo W0 W (R :: ma S' :: A :: B :: C :: D :: E :: ma S :: lets)) : Zoo W0 W (A :: B :: C :: D :: E :: ma (S' ++ S) :: (lets ++ [R])) := by
 have p1 : (R :: ma S' :: A :: B :: C :: D :: E :: ma S :: lets).Perm (ma S' :: ma S :: A :: B :: C :: D :: E :: (lets ++ [R])) := by
  refine (qx R (ma S' :: A :: B :: C :: D :: E :: ma S :: lets)).symm.trans ?_;exact List.Perm.cons _ (Nl (l₁ := [A, B, C, D, E]))
 have h2 := Vi (h.perm p1);exact h2.perm (Nl (l₁ := [A, B, C, D, E]) (a := ma (S' ++ S)) (l₂ := lets ++ [R])).symm
def ml0 : List Value := [.slice none 0 0, .int .u64 0, .slice none 0 0, .slice none 0 0, .int .u64 0, .int .u64 0]
set_option maxRecDepth 100000 in
set_option maxHeartbeats 8000000 in
theorem bo_ (v : Value) (m : Ml) (W : World) (hin : pq W v m) (hs : Ik m) :
  Calls prog 44 #[v] W (Wt W m) := by
 obtain ⟨vb, vh, vs, bs, rfl, hbs, hib, hih, his⟩ := hin;have hlb : bs.length = m.boxes.length := by rw [← hbs, az]
 have hib0 := hi_ (fun (W' : World) (h : Below W.heap.size W W') => hib.below h);have hih0 := hi_ (fun (W' : World) (h : Below W.heap.size W W') => (jf hih h : F_ W' vh m.homes));have his0 := hi_ (fun (W' : World) (h : Below W.heap.size W W') => (jf his h : z_ W' vs m.seats));have hz1 := ((ny W).dz [vb, .int .u64 m.nv, vh, vs, .int .u64 m.ns, .int .u64 m.a_].toArray 27).dz ml0.toArray 27;have hs1 : (W.alloc (.cells [vb, .int .u64 m.nv, vh, vs, .int .u64 m.ns, .int .u64 m.a_].toArray 27)).heap.size = W.heap.size + 1 := by simp
 rw [hs1] at hz1;have hc := Nb (his0.out _ hz1.bel) (by have := hs.seats; omega);unfold ml0 at hz1 hc;replace hz1 := hi_ hz1;replace hc := hi_ hc;obtain ⟨ab, cb, rfl, -⟩ := hib.1;obtain ⟨ah, ch, rfl, -⟩ := hih;obtain ⟨as_, cs, rfl, -⟩ := his;have hlb2 : bs.length ≤ 1000 := by rw [hlb]; exact hs.boxes
 replace hlb := hi_ hlb;replace hbs := hi_ hbs;replace hs := hi_ hs;clear hib hs1;unfold yg;go_enter func44, ntmps44;go_wp2_with fail;refine hc.out.mono ?_;rintro e w2 ⟨v2, rfl, ho2, hb2, hf2⟩;obtain ⟨a2, c2, rfl⟩ := ho2.out.len;have hz2 := hz1.out.newRow hb2.out ho2.out hf2.out;obtain ⟨hbx, -⟩ := hz2.box 2 rfl;have k3 : w2.cell? ⟨W.heap.size, 3, none⟩ = some (.slice as_ m.seats.length cs) := bc_ hbx 3;have k2 : w2.cell? ⟨W.heap.size, 2, none⟩ = some (.slice ah m.homes.length ch) := bc_ hbx 2;have f2 := bf_ hbx;have hz3 := hz2.il 2 rfl 3 (.slice a2 m.seats.length c2);replace hz3 : Zoo W (w2.setCell ⟨W.heap.size, 3, none⟩ (.slice a2 m.seats.length c2)) [stT.row (.slice a2 m.seats.length c2) m.seats, df (W.heap.size + 1) [.slice none 0 0, .int .u64 0, .slice none 0 0, .slice none 0 0, .int .u64 0, .int .u64 0].toArray 27, df W.heap.size [.slice ab bs.length cb, .int .u64 m.nv, .slice ah m.homes.length ch, .slice a2 m.seats.length c2, .int .u64 m.ns, .int .u64 m.a_].toArray 27] := hz3;have hc3 := hi_ (Vu (hih0.out _ hz3.bel) (by have := hs.out.homes; omega));replace hz3 := hi_ hz3;clear hc hz1 hz2 ho2 hb2 hf2 hbx;go_wp2_with fail;refine hc3.out.mono ?_;rintro e w3 ⟨v3, rfl, ho3, hb3, hf3⟩;obtain ⟨a3, c3, rfl⟩ := ho3.out.len;have hz4 := hz3.out.newRow hb3.out ho3.out hf3.out;obtain ⟨hbx, -⟩ := hz4.box 3 rfl;have k2 : w3.cell? ⟨W.heap.size, 2, none⟩ = some (.slice ah m.homes.length ch) := bc_ hbx 2;have k0 : w3.cell? ⟨W.heap.size, 0, none⟩ = some (.slice ab bs.length cb) := bc_ hbx 0;have f2 := bf_ hbx;have hz5 := hz4.il 3 rfl 2 (.slice a3 m.homes.length c3);replace hz5 : Zoo W (w3.setCell ⟨W.heap.size, 2, none⟩ (.slice a3 m.homes.length c3)) [hmT.row (.slice a3 m.homes.length c3) m.homes, stT.row (.slice a2 m.seats.length c2) m.seats, df (W.heap.size + 1) [.slice none 0 0, .int .u64 0, .slice none 0 0, .slice none 0 0, .int .u64 0, .int .u64 0].toArray 27, df W.heap.size [.slice ab bs.length cb, .int .u64 m.nv, .slice a3 m.homes.length c3, .slice a2 m.seats.length c2, .int .u64 m.ns, .int .u64 m.a_].toArray 27] := hz5;have hc4 := hi_ (Vv (hib0.out _ hz5.bel).1 (by rw [hlb.out]; have := hs.out.boxes; omega));replace hz5 := hi_ hz5;clear hc3 hz3 hz4 ho3 hb3 hf3 hbx k3;go_wp2_with fail;refine hc4.out.mono ?_;rintro e w4 ⟨v4, rfl, ho4, hb4, hf4⟩;obtain ⟨a4, c4, rfl⟩ := ho4.out.len;have hz6 := hz5.out.newRow hb4.out ho4.out hf4.out;obtain ⟨hbx, -⟩ := hz6.box 4 rfl;have k0 : w4.cell? ⟨W.heap.size, 0, none⟩ = some (.slice ab bs.length cb) := bc_ hbx 0;have f2 := bf_ hbx;have hz7 := hz6.il 4 rfl 0 (.slice a4 bs.length c4);replace hz7 : Zoo W (w4.setCell ⟨W.heap.size, 0, none⟩ (.slice a4 bs.length c4)) [bxT.row (.slice a4 bs.length c4) bs, hmT.row (.slice a3 m.homes.length c3) m.homes, stT.row (.slice a2 m.seats.length c2) m.seats, df (W.heap.size + 1) [.slice none 0 0, .int .u64 0, .slice none 0 0, .slice none 0 0, .int .u64 0, .int .u64 0].toArray 27, df W.heap.size [.slice a4 bs.length c4, .int .u64 m.nv, .slice a3 m.homes.length c3, .slice a2 m.seats.length c2, .int .u64 m.ns, .int .u64 m.a_].toArray 27] := hz7;replace hz7 := hi_ hz7;clear hc4 hz5 hz6 ho4 hb4 hf4 hbx k2;go_wp2_with fail;have hz8 := hi_ ((Ir hz7.out).perm (qx _ _).symm);clear hz7 k0 f2;generalize hB1 : W.heap.size = B1 at hz8 ⊢;replace hB1 := hi_ hB1;go_loopw [19] (fun v19 wr => ∃ (k : Nat) (done : List BxV) (S : List (Value × List (List UInt8))), v19 = .int .i64 k ∧ k ≤ bs.length ∧ Hid (done.length = k ∧ done.map BxV.b = (bs.take k).map BxV.b ∧ Pz S done) ∧ Hid (Zoo W wr (bxT.row (.slice a4 bs.length c4) (done ++ bs.drop k) :: hmT.row (.slice a3 m.homes.length c3) m.homes :: stT.row (.slice a2 m.seats.length c2) m.seats :: df (B1 + 1) [.slice none 0 0, .int .u64 0, .slice none 0 0, .slice none 0 0, .int .u64 0, .int .u64 0].toArray 27 :: df B1 [.slice a4 bs.length c4, .int .u64 m.nv, .slice a3 m.homes.length c3, .slice a2 m.seats.length c2, .int .u64 m.ns, .int .u64 m.a_].toArray 27 :: ma S :: qi done))) (fun v19 _ => bs.length - (intOf v19).toNat);case atStart => exact ⟨0, [], [], rfl, dw _, hi_ ⟨rfl, rfl, fun y hy => by simp at hy⟩, hz8⟩
 case round =>
  clear hz8;obtain ⟨k, done, S, rfl, hk, hd, hz⟩ := hrel;have hlen : (done ++ bs.drop k).length = bs.length := by rw [bz, hd.out.1, iq]; omega
  by_cases hlt : k < bs.length
  ·have hl1 : (k : Int) < (bs.length : Int) := (by omega);have hget : (done ++ bs.drop k)[k]'(by omega) = bs[k] := by
    rw [K_ (by rw [hd.out.1]; exact ax _), Lc];congr 1;rw [hd.out.1]; omega
   obtain ⟨y, hy⟩ : ∃ y, bs[k] = y := ⟨_, rfl⟩;have hym : y ∈ bs := (by rw [← hy]; exact bg hlt);obtain ⟨hbx, -⟩ := hz.out.box 4 rfl;have c4' : wr.cell? ⟨B1, 0, none⟩ = some (.slice a4 bs.length c4) := bc_ hbx 0;obtain ⟨g, cap, hv, hcap, hg, hcells⟩ := (hz.out.own 0 rfl).cells (j := k) (by omega);rw [hlen] at hv hcap;injection hv with e1 e2 e3;subst e1 e3;have r0 := hcells 0 (by decide);have r1 := hcells 1 (by decide);have r2 := hcells 2 (by decide);have r3 := hcells 3 (by decide);have r4 := hcells 4 (by decide);rw [hget, hy] at r0 r1 r2 r3 r4;replace r0 : wr.cell? ⟨g, k * 5, none⟩ = some (.string y.name) := r0;replace r1 : wr.cell? ⟨g, k * 5 + 1, none⟩ = some (.int .u64 y.ag) := r1;replace r2 : wr.cell? ⟨g, k * 5 + 2, none⟩ = some (.int .u64 y.next) := r2;replace r3 : wr.cell? ⟨g, k * 5 + 3, none⟩ = some (.int .u64 y.high) := r3;replace r4 : wr.cell? ⟨g, k * 5 + 4, none⟩ = some (.slice y.a y.rows.length y.c) := r4;have hsz : y.b ∈ m.boxes := (by rw [← hbs.out]; exact jo hym);have hln := hs.out.letters _ hsz;have hfln := hs.out.flags _ hsz;have hc := Kn y wr.drew ((hib0.out wr.drew hz.out.drew.bel).2 y hym) (by have : y.b.letters.length = y.rows.length := az ..; omega) (fun z hz => by have := hfln z.x (jo hz); omega);unfold Gy rq BxV.v at hc;replace hc := hi_ hc;have hB1lt := fu _ _ c4';dsimp only at hB1lt;clear hcells hbx hsz hln hfln;replace hy := hi_ hy;replace hget := hi_ hget;replace hlen := hi_ hlen;go_wp2_with fail;refine wr_ (fun w' => w'.cell? ⟨B1, 0, none⟩ = some (.slice (some ⟨g, 0, none⟩) bs.length c4) ∧ w'.cell? ⟨g, k * 5, none⟩ = some (.string y.name) ∧ w'.cell? ⟨g, k * 5 + 1, none⟩ = some (.int .u64 y.ag) ∧ w'.cell? ⟨g, k * 5 + 2, none⟩ = some (.int .u64 y.next) ∧ w'.cell? ⟨g, k * 5 + 3, none⟩ = some (.int .u64 y.high) ∧ w'.cell? ⟨g, k * 5 + 4, none⟩ = some (.slice y.a y.rows.length y.c)) 9 2 ⟨c4', r0, r1, r2, r3, r4⟩ fun hok hS0 => ?_;refine av hok 0 ?_;refine av hok 1 ?_;refine av hok 2 ?_;refine av hok 3 ?_;refine av hok 4 ?_;refine av hok 5 ?_;refine av hok 6 ?_;refine av hok 7 ?_;refine g_ 8 fun K hK => ?_;go_simp;refine hc.out.mono ?_;rintro e w3 ⟨z, S2, he, hzb, hz3⟩;unfold Gy rq BxV.v at he;subst he;dsimp only;have hb3 := hz3.out.bel;have kc : ∀ j u, wr.cell? ⟨g, j, none⟩ = some u → w3.cell? ⟨g, j, none⟩ = some u := fun j u h => (hb3.cell (p := ⟨g, j, none⟩) hg).trans h;refine hK _ _ ⟨(hb3.cell (p := ⟨B1, 0, none⟩) hB1lt).trans c4', kc _ _ r0, kc _ _ r1, kc _ _ r2, kc _ _ r3, kc _ _ r4⟩ ?_;clear hK K;refine kw ?_;have hz5 := Yi (hz.out.drew.join hz3.out);obtain ⟨g', cap', hv, -, -, hcl, hfr, hz6⟩ := hz5.Xp 0 rfl rfl k (by rw [hlen.out]; exact hlt) z (.string z.name) (.int .u64 z.ag) (.int .u64 z.next) (.int .u64 z.high) (.slice z.a z.rows.length z.c) rfl;rw [hlen.out] at hv;injection hv with e1 e2 e3;injection e1 with e1;injection e1 with e1;subst e1;have f0 := hfr (k * 5);have f1 := hfr (k * 5 + 1);have f2 := hfr (k * 5 + 2);have f3 := hfr (k * 5 + 3);have f4 := hfr (k * 5 + 4);replace r0 := kc _ _ r0;replace r1 := kc _ _ r1;replace r2 := kc _ _ r2;replace r3 := kc _ _ r3;replace r4 := kc _ _ r4;have hd2 : Hid ((done ++ [z]).length = k + 1 ∧ (done ++ [z]).map BxV.b = (bs.take (k + 1)).map BxV.b ∧ Pz (S2 ++ S) (done ++ [z])) := hi_ (by
    refine ⟨by rw [bz, hd.out.1]; rfl, ?_, fun q hq p hp => ?_⟩
    ·rw [ak hlt, fo, fo, hd.out.2.1, hy.out, Jy, Jy, hzb.out.1]
    rcases fe.1 hq with hq | hq
    ·exact List.mem_append_right _ (hd.out.2.2 q hq p hp)
    simp only [dx] at hq;subst hq;exact List.mem_append_left _ (hzb.out.2 p hp))
   have hst : (done ++ bs.drop k).set k z = (done ++ [z]) ++ bs.drop (k + 1) := by
    rw [t_ _ _ (by rw [hd.out.1]; exact ax _), hd.out.1, Nat.sub_self, pu hlt, jd]; rfl
   have hll : qi (done ++ [z]) = qi done ++ [ltT.row z.v z.rows] := fo ..;have hz7 : Hid (Zoo W (((((w3.setCell ⟨g, k * 5, none⟩ (.string z.name)).setCell ⟨g, k * 5 + 1, none⟩ (.int .u64 z.ag)).setCell ⟨g, k * 5 + 2, none⟩ (.int .u64 z.next)).setCell ⟨g, k * 5 + 3, none⟩ (.int .u64 z.high)).setCell ⟨g, k * 5 + 4, none⟩ (.slice z.a z.rows.length z.c)) (bxT.row (.slice (some ⟨g, 0, none⟩) bs.length c4) ((done ++ [z]) ++ bs.drop (k + 1)) :: hmT.row (.slice a3 m.homes.length c3) m.homes :: stT.row (.slice a2 m.seats.length c2) m.seats :: df (B1 + 1) [.slice none 0 0, .int .u64 0, .slice none 0 0, .slice none 0 0, .int .u64 0, .int .u64 0].toArray 27 :: df B1 [.slice (some ⟨g, 0, none⟩) bs.length c4, .int .u64 m.nv, .slice a3 m.homes.length c3, .slice a2 m.seats.length c2, .int .u64 m.ns, .int .u64 m.a_].toArray 27 :: ma (S2 ++ S) :: qi (done ++ [z]))) := hi_ (by rw [hll, ← hst]; exact hz6);clear hz hz5 hz6 hfr hst hll hc hz3 hb3 hok hS0 c4' hd hy hget hlen hcl kc hzb hB1lt hg;go_wp2_with fail;go_roundw;case rel => exact ⟨k + 1, _, _, by go_num, by omega, hd2, hz7⟩
   case measure => simp [intOf] <;> omega
  have hl1 : (bs.length : Int) ≤ (k : Int) := by omega
  obtain rfl : k = bs.length := by omega
  obtain ⟨hbx, -⟩ := hz.out.box 4 rfl;obtain ⟨hby, -⟩ := hz.out.box 3 rfl;obtain ⟨c0, c1, c2', c3', c4', c5'⟩ := bx6 hbx;obtain ⟨d0, d1, d2, d3, d4, d5⟩ := bx6 hby
  have f0 := bf_ hby
  have hz5 := (((((hz.out.il 3 rfl 0 (.slice a4 bs.length c4)).il 3 rfl 1 (.int .u64 m.nv)).il 3 rfl 2 (.slice a3 m.homes.length c3)).il 3 rfl 3 (.slice a2 m.seats.length c2)).il 3 rfl 4 (.int .u64 m.ns)).il 3 rfl 5 (.int .u64 m.a_);obtain ⟨hbz, -⟩ := hz5.box 3 rfl;rw [wy, jy] at hz5;have hz6 := hi_ (hz5.sub (L' := zk (.slice a4 bs.length c4) (.slice a3 m.homes.length c3) (.slice a2 m.seats.length c2) done m.homes m.seats S) (by unfold zk; simp));replace hbz := hi_ hbz;clear hz5 hz hbx hby
  go_wp2_with fail;refine bodyPost_ret (results_cell_row rfl _ _ _ 27 _ (0, 0) _ rfl hbz.out underlying27 rfl rfl) rfl ?_;have h1 := hd.out.2.1;rw [gp, hbs.out] at h1;exact ⟨_, _, _, done, S, rfl, hi_ ⟨h1, hd.out.2.2⟩, hz6⟩
end
end Go.Proofs.YtdobbfjmlnlieaaGreat
