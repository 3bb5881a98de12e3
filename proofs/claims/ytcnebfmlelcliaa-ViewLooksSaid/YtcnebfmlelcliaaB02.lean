/- Rows of structs of the call's own, of whatever type: what they hold, how they are read, written and appended to. Rows of the call's own of which a first part is taken, with no room behind it: what they hold, how they are cut, written and appended to. What mail is made of: letters, mailboxes, seats, homes, a state; how they lie in memory. -/
import Derived.Test.YtcnebfmlelcliaaB01
import Derived.Test.YtcnebfmlelcliaaProg
import Derived.ArgAppend
import Derived.Test.YtcnebfmlelcliaaChecked
import Derived.Sort.EncStr
namespace Go.Proofs.Ytcnebfmlelcliaa
open Go.RowKit

theorem cell_at {W : World} {b : Nat} {C : Array Value} {t : TypeId} (h : W.heap[b]? = some (.cells C t (0, 0))) (j : Nat) : W.cell? ⟨b, j, none⟩ = C[j]? := by simp [World.cell?, h]
theorem free_at {W : World} {b : Nat} {C : Array Value} {t : TypeId} (h : W.heap[b]? = some (.cells C t (0, 0))) (j : Nat) : W.frozen? ⟨b, j, none⟩ = false := by simp [World.frozen?, h]
theorem cells_set {W : World} {g : Nat} {C : List Value} {t : TypeId} (h : W.heap[g]? = some (.cells C.toArray t (0, 0))) (j : Nat) (v : Value) : (W.setCell ⟨g, j, none⟩ v).heap[g]? = some (.cells (C.set j v).toArray t (0, 0)) := by
  simp only [World.setCell, Array.getElem?_modify, h, if_true, Option.map_some]
  rw [← List.setIfInBounds_toArray]
  rfl
/-- a type of structs that rows are made of: its elements' cells -/
structure RT (α : Type) where
  enc : α → List Value
  K : Nat
  t : TypeId
  ts : TypeId
  z : Value
  bytes : Nat
  len : ∀ x, (enc x).length = K
  one : ∀ x, ∀ u ∈ enc x, u.oneCell' = true
  pos : 0 < K
  und : Try.prog.underlying ts = some (.slice t)
  info : (Try.prog.info? t).map (fun i => (i.zero, i.size, i.bytes)) = some (some z, K, bytes)
  zs : z.cells.size = K
  bb : bytes ≤ 4096
section
variable {α : Type} (R : RT α)
def RT.cells (l : List α) : List Value := l.flatMap R.enc
theorem RT.cells_len : ∀ (l : List α), (R.cells l).length = l.length * R.K
  | [] => by simp [RT.cells]
  | k :: r => by
    have := RT.cells_len r
    unfold RT.cells at this ⊢
    rw [List.flatMap_cons, List.length_append, this, List.length_cons, R.len, Nat.succ_mul]
    omega
theorem RT.cells_app (a b : List α) : R.cells (a ++ b) = R.cells a ++ R.cells b := List.flatMap_append
theorem RT.cells_one (l : List α) : ∀ u ∈ R.cells l, u.oneCell' = true := fun u hu => by
  obtain ⟨x, _, hx⟩ := List.mem_flatMap.1 hu
  exact R.one x u hx
theorem RT.cells_get : ∀ (l : List α) (j : Nat) (hj : j < l.length) (r : Nat), r < R.K → (R.cells l)[j * R.K + r]? = (R.enc l[j])[r]?
  | k :: l, 0, _, r, hr => by
    unfold RT.cells
    rw [List.flatMap_cons, List.getElem?_append_left (by rw [R.len]; omega)]
    simp
  | k :: l, j + 1, hj, r, hr => by
    have := RT.cells_get l j (by simpa using hj) r hr
    unfold RT.cells at this ⊢
    rw [List.flatMap_cons, List.getElem?_append_right (by rw [R.len, Nat.succ_mul]; omega), List.getElem_cons_succ, ← this, R.len]
    congr 1
    rw [Nat.succ_mul]; omega
/-- v is a row of the call's own that holds l -/
def RT.Own (W : World) (v : Value) (l : List α) : Prop := W.ownsRow 0 R.t R.K v l.length (R.cells l)
/-- block g is a row of l, and what lies behind -/
def RT.PR (W : World) (g : Nat) (l : List α) (rest : List Value) : Prop := W.heap[g]? = some (.cells (R.cells l ++ rest).toArray R.t (0, 0))
variable {R}
theorem RT.Own.len {W : World} {v : Value} {l : List α} (h : R.Own W v l) : ∃ a c, v = .slice a l.length c := by
  rcases h.2 with ⟨rfl, hn⟩ | ⟨g, cap, cur, rfl, _⟩
  · exact ⟨none, 0, by rw [hn]⟩
  · exact ⟨_, _, rfl⟩
theorem RT.Own.block {W W' : World} {v : Value} {l : List α} (h : R.Own W v l) (hk : ∀ g, v.ownBlock = some g → W'.heap[g]? = W.heap[g]?) : R.Own W' v l := by
  refine ⟨h.1, ?_⟩
  rcases h.2 with h1 | ⟨g, cap, cur, h1, h2, h3, h4⟩
  · exact .inl h1
  · exact .inr ⟨g, cap, cur, h1, h2, (hk g (by rw [h1]; rfl)).trans h3, h4⟩
theorem RT.Own.lt {W : World} {v : Value} {l : List α} (h : R.Own W v l) {g : Nat} (hg : v.ownBlock = some g) : g < W.heap.size := (World.ownsRow.lt h g hg).2
theorem RT.Own.below {W W' : World} {v : Value} {l : List α} (h : R.Own W v l) (hb : Below W.heap.size W W') : R.Own W' v l := h.block (fun g hg => hb.block g (h.lt hg))
theorem RT.Own.rd {W : World} {v : Value} {l : List α} (h : R.Own W v l) : Rd W v l.length (R.cells l) := Rd.of_own h
theorem RT.Own.nil (R : RT α) (W : World) : R.Own W (.slice none 0 0) [] := World.ownsRow_nil _ _ _ _
theorem RT.Own.empty (R : RT α) (W : World) (n : Nat) (h : W.heap.size = n) : R.Own (W.alloc (.cells #[] R.t)) (.slice (some ⟨n, 0, none⟩) 0 0) [] := by
  subst h
  exact ⟨by simp [RT.cells], .inr ⟨W.heap.size, 0, _, rfl, Nat.zero_le _, heap_alloc_new W _, Nat.le_refl _, by unfold maxLen; omega, by simp, by simp [RT.cells]⟩⟩
theorem RT.Own.one (R : RT α) (W : World) (x : α) (n : Nat) (h : W.heap.size = n) : R.Own (W.alloc (.cells (R.enc x).toArray R.t)) (.slice (some ⟨n, 0, none⟩) 1 1) [x] := by
  subst h
  have hc : R.cells [x] = R.enc x := by simp [RT.cells]
  refine ⟨by rw [hc, R.len]; simp, .inr ⟨W.heap.size, 1, _, rfl, Nat.zero_le _, heap_alloc_new W _, Nat.le_refl _, by unfold maxLen; omega, by simp [R.len], ?_⟩⟩
  rw [hc, List.take_of_length_le (by simp [R.len])]
theorem RT.PR.cell {W : World} {g : Nat} {l : List α} {rest : List Value} (h : R.PR W g l rest) (j r : Nat) (hj : j < l.length) (hr : r < R.K) : W.cell? ⟨g, j * R.K + r, none⟩ = (R.enc l[j])[r]? := by
  rw [cell_at h (j * R.K + r)]
  simp only [List.getElem?_toArray]
  have : j * R.K + r < l.length * R.K := by
    have h1 : (j + 1) * R.K ≤ l.length * R.K := Nat.mul_le_mul_right _ hj
    rw [Nat.succ_mul] at h1; omega
  rw [List.getElem?_append_left (by rw [R.cells_len]; exact this), R.cells_get l j hj r hr]
theorem RT.PR.free {W : World} {g : Nat} {l : List α} {rest : List Value} (h : R.PR W g l rest) (j : Nat) : W.frozen? ⟨g, j, none⟩ = false := free_at h j
theorem RT.PR.put {W : World} {g : Nat} {l : List α} {rest : List Value} (h : R.PR W g l rest) (j r : Nat) (hj : j < l.length) (hr : r < R.K) (u : Value) (x : α) (hx : R.enc x = (R.enc l[j]).set r u) : R.PR (W.setCell ⟨g, j * R.K + r, none⟩ u) g (l.set j x) rest := by
  unfold RT.PR
  rw [cells_set (show W.heap[g]? = _ from h)]
  have hlt : j * R.K + r < l.length * R.K := by
    have h1 : (j + 1) * R.K ≤ l.length * R.K := Nat.mul_le_mul_right _ hj
    rw [Nat.succ_mul] at h1; omega
  have e : (R.cells l ++ rest).set (j * R.K + r) u = R.cells (l.set j x) ++ rest := by
    rw [List.set_append_left _ _ (by rw [R.cells_len]; exact hlt)]
    congr 1
    apply List.ext_getElem?
    intro i
    rw [List.getElem?_set]
    by_cases hi : i < l.length * R.K
    · have hK := R.pos
      obtain ⟨m, q, hq, rfl⟩ : ∃ m q, q < R.K ∧ i = m * R.K + q := ⟨i / R.K, i % R.K, Nat.mod_lt _ hK, by rw [Nat.mul_comm]; exact (Nat.div_add_mod i R.K).symm⟩
      have hm : m < l.length := by
        rcases Nat.lt_or_ge m l.length with h1 | h1
        · exact h1
        · have := Nat.mul_le_mul_right R.K h1; omega
      rw [R.cells_get l m hm q hq, R.cells_get (l.set j x) m (by rw [List.length_set]; exact hm) q hq, R.cells_len]
      by_cases hmj : j = m
      · subst hmj
        rw [List.getElem_set_self, hx, List.getElem?_set]
        by_cases hrq : r = q
        · subst hrq; rw [if_pos rfl, if_pos rfl, if_pos hlt, if_pos (by rw [R.len]; exact hr)]
        · rw [if_neg hrq, if_neg (by omega)]
      · rw [List.getElem_set_ne hmj, if_neg]
        intro e
        rcases Nat.lt_or_gt_of_ne hmj with h1 | h1
        · have := Nat.mul_le_mul_right R.K (show j + 1 ≤ m from h1); rw [Nat.succ_mul] at this; omega
        · have := Nat.mul_le_mul_right R.K (show m + 1 ≤ j from h1); rw [Nat.succ_mul] at this; omega
    · rw [if_neg (by omega), List.getElem?_eq_none (by rw [R.cells_len]; omega), List.getElem?_eq_none (by rw [R.cells_len, List.length_set]; omega)]
  rw [e]
theorem RT.Own.row {W : World} {v : Value} {l : List α} (h : R.Own W v l) (hpos : 0 < l.length) : ∃ g cap rest, v = .slice (some ⟨g, 0, none⟩) l.length cap ∧ l.length ≤ cap ∧ g < W.heap.size ∧ R.PR W g l rest ∧ ∀ W' (l' : List α) n, n ≤ l.length → l'.length = l.length → R.PR W' g l' rest → R.Own W' (.slice (some ⟨g, 0, none⟩) n cap) (l'.take n) := by
  rcases h.2 with ⟨rfl, hn⟩ | ⟨g, cap, cur, rfl, hb, hg, hc, hm, hs, ht⟩
  · omega
  · refine ⟨g, cap, cur.toList.drop (l.length * R.K), rfl, hc, (Array.getElem?_eq_some_iff.1 hg).1, ?_, ?_⟩
    · unfold RT.PR
      rw [← ht, List.take_append_drop]
      exact hg
    · intro W' l' n hn hl hr
      unfold RT.PR at hr
      have e : R.cells l' = R.cells (l'.take n) ++ R.cells (l'.drop n) := by rw [← R.cells_app, List.take_append_drop]
      refine ⟨by rw [R.cells_len], .inr ⟨g, cap, _, by rw [List.length_take, Nat.min_eq_left (by omega)], hb, hr, by rw [List.length_take]; omega, hm, ?_, ?_⟩⟩
      · have h1 := R.cells_len l'
        have h2 : cur.toList.length = cur.size := rfl
        simp only [List.size_toArray, List.length_append, List.length_drop, h1, h2, hl]
        have h3 : cur.size = cap * R.K := hs
        have h4 := Nat.mul_le_mul_right R.K hc
        omega
      · rw [List.toList_toArray, e, List.append_assoc, List.take_left' (R.cells_len _)]
/-- such a row as a thing -/
def RT.row (R : RT α) (v : Value) (l : List α) : Th := ⟨fun F W => R.Own W v l ∧ ∀ k, F k ↔ v.ownBlock = some k, fun _ _ h k hk => h.1.lt ((h.2 k).1 hk), fun _ _ _ h hk => ⟨h.1.block (fun g hg => hk g ((h.2 g).2 hg)), h.2⟩⟩
theorem Zoo.own {W0 W : World} {L : List Th} {v : Value} {l : List α} (h : Zoo W0 W L) (i : Nat) (hi : L[i]? = some (R.row v l)) : R.Own W v l := by
  obtain ⟨F, h1, _⟩ := h.get i _ hi
  exact h1.1
theorem RT.Own.cells {W : World} {v : Value} {l : List α} (h : R.Own W v l) {j : Nat} (hj : j < l.length) : ∃ g cap, v = .slice (some ⟨g, 0, none⟩) l.length cap ∧ l.length ≤ cap ∧ g < W.heap.size ∧ ∀ r, r < R.K → W.cell? ⟨g, j * R.K + r, none⟩ = (R.enc l[j])[r]? := by
  obtain ⟨g, cap, rest, hv, hc, hg, hr, -⟩ := h.row (by omega)
  exact ⟨g, cap, hv, hc, hg, fun r hr1 => hr.cell j r hj hr1⟩
/-- a row in new memory is a thing more -/
theorem Zoo.newRow {W0 W W' : World} {L : List Th} (h : Zoo W0 W L) (hb : Below W.heap.size W W') {v : Value} {l : List α} (ho : R.Own W' v l) (hf : ∀ g, v.ownBlock = some g → W.heap.size ≤ g) : Zoo W0 W' (R.row v l :: L) :=
  h.more hb _ (fun k => v.ownBlock = some k) ⟨ho, fun _ => Iff.rfl⟩ hf
theorem grows_row {W W' : World} {v v' : Value} {F : Foot} (hF : ∀ k, F k ↔ v.ownBlock = some k) (hg : W.grownBy W' v.ownBlock) (hat : ∀ g, v'.ownBlock = some g → v.ownBlock = some g ∨ W.heap.size ≤ g) : Grows F W (fun k => v'.ownBlock = some k) W' :=
  ⟨hg.os, hg.tape, hg.output, hg.size, fun k hk hn => hg.block k hk (fun e => hn ((hF k).2 e.symm)), fun k hk => (hat k hk).imp_left (fun h => (hF k).2 h)⟩
theorem grows_set {W : World} {v : Value} {F : Foot} (hF : ∀ k, F k ↔ v.ownBlock = some k) {g j : Nat} (hg : v.ownBlock = some g) (u : Value) {v' : Value} (hv : ∀ k, v'.ownBlock = some k → v.ownBlock = some k) : Grows F W (fun k => v'.ownBlock = some k) (W.setCell ⟨g, j, none⟩ u) :=
  ⟨rfl, rfl, rfl, by simp, fun k hk hn => heap_setCell_other W ⟨g, j, none⟩ k _ (fun e => hn ((hF k).2 (by rw [e]; exact hg))), fun k hk => .inl ((hF k).2 (hv k hk))⟩
/-- one field of one element of a row is written -/
theorem Zoo.putField {W0 W : World} {L : List Th} {v : Value} {l : List α} (h : Zoo W0 W L) (i : Nat) (hi : L[i]? = some (R.row v l)) (j : Nat) (hj : j < l.length) (r : Nat) (hr : r < R.K) (u : Value) (x : α) (hx : R.enc x = (R.enc l[j]).set r u) :
    ∃ g cap, v = .slice (some ⟨g, 0, none⟩) l.length cap ∧ W0.heap.size ≤ g ∧ g < W.heap.size ∧ (∀ r, r < R.K → W.cell? ⟨g, j * R.K + r, none⟩ = (R.enc l[j])[r]?) ∧ (∀ k, W.frozen? ⟨g, k, none⟩ = false) ∧ Zoo W0 (W.setCell ⟨g, j * R.K + r, none⟩ u) (L.set i (R.row v (l.set j x))) := by
  obtain ⟨F, ⟨ho, hF⟩, hlow, hact⟩ := h.act i _ hi
  obtain ⟨g, cap, rest, rfl, -, hg, hrow, hback⟩ := ho.row (by omega)
  have h2 := hback _ _ l.length (Nat.le_refl _) (by rw [List.length_set]) (hrow.put j r hj hr u x hx)
  rw [List.take_of_length_le (by rw [List.length_set]; exact Nat.le_refl _)] at h2
  exact ⟨g, cap, rfl, hlow g ((hF g).2 rfl), hg, fun r hr1 => hrow.cell j r hj hr1, hrow.free, hact _ _ _ ⟨h2, fun _ => Iff.rfl⟩ (grows_set hF rfl u (fun k hk => hk))⟩
/-- nothing but block g has turned -/
structure KeptB (W : World) (g : Nat) (W' : World) : Prop where
  os : W'.os = W.os
  tape : W'.tape = W.tape
  output : W'.output = W.output
  size : W'.heap.size = W.heap.size
  block : ∀ k, k ≠ g → W'.heap[k]? = W.heap[k]?
theorem KeptB.refl (W : World) (g : Nat) : KeptB W g W := ⟨rfl, rfl, rfl, rfl, fun _ _ => rfl⟩
theorem KeptB.set {W W' : World} {g : Nat} (h : KeptB W g W') (j : Nat) (u : Value) : KeptB W g (W'.setCell ⟨g, j, none⟩ u) :=
  ⟨h.os, h.tape, h.output, by simpa using h.size, fun k hk => (heap_setCell_other W' ⟨g, j, none⟩ k _ hk).trans (h.block k hk)⟩
theorem KeptB.grows {W W' : World} {g : Nat} {v : Value} {F : Foot} (h : KeptB W g W') (hF : ∀ k, F k ↔ v.ownBlock = some k) (hv : v.ownBlock = some g) : Grows F W F W' :=
  ⟨h.os, h.tape, h.output, Nat.le_of_eq h.size.symm, fun k _ hn => h.block k (fun e => hn ((hF k).2 (by rw [e]; exact hv))), fun _ hk => .inl hk⟩
set_option maxHeartbeats 4000000 in
/-- all five fields of one element of a row are written -/
theorem RT.PR.put5 {W : World} {g : Nat} {l : List α} {rest : List Value} (h : R.PR W g l rest) (hK : R.K = 5) (j : Nat) (hj : j < l.length) (x : α) (u0 u1 u2 u3 u4 : Value) (hx : R.enc x = [u0, u1, u2, u3, u4]) :
    R.PR (((((W.setCell ⟨g, j * 5, none⟩ u0).setCell ⟨g, j * 5 + 1, none⟩ u1).setCell ⟨g, j * 5 + 2, none⟩ u2).setCell ⟨g, j * 5 + 3, none⟩ u3).setCell ⟨g, j * 5 + 4, none⟩ u4) g (l.set j x) rest := by
  have hlen : (R.cells l).length = l.length * 5 := by rw [R.cells_len, hK]
  have hl2 : (R.cells (l.set j x)).length = l.length * 5 := by rw [R.cells_len, List.length_set, hK]
  have e : ((((((R.cells l ++ rest).set (j * 5) u0).set (j * 5 + 1) u1).set (j * 5 + 2) u2).set (j * 5 + 3) u3).set (j * 5 + 4) u4) = R.cells (l.set j x) ++ rest := by
    apply List.ext_getElem?
    intro i
    simp only [List.getElem?_set, List.length_set, List.length_append, hlen]
    by_cases hi : i < l.length * 5
    · obtain ⟨m, r, hr, rfl⟩ : ∃ m r, r < 5 ∧ i = m * 5 + r := ⟨i / 5, i % 5, Nat.mod_lt _ (by decide), by omega⟩
      have g1 := R.cells_get l m (by omega) r (by omega)
      have g2 := R.cells_get (l.set j x) m (by rw [List.length_set]; omega) r (by omega)
      rw [hK] at g1 g2
      rw [List.getElem?_append_left (by omega), List.getElem?_append_left (by omega), g1, g2]
      by_cases hm : j = m
      · subst hm
        rw [List.getElem_set_self, hx]
        have h5 : r = 0 ∨ r = 1 ∨ r = 2 ∨ r = 3 ∨ r = 4 := by omega
        rcases h5 with rfl | rfl | rfl | rfl | rfl
        all_goals simp
        all_goals omega
      · rw [List.getElem_set_ne hm]
        rw [if_neg (by omega), if_neg (by omega), if_neg (by omega), if_neg (by omega), if_neg (by omega)]
    · rw [List.getElem?_append_right (by omega), List.getElem?_append_right (by omega), hlen, hl2]
      rw [if_neg (by omega), if_neg (by omega), if_neg (by omega), if_neg (by omega), if_neg (by omega)]
  unfold RT.PR
  rw [← e]
  exact cells_set (cells_set (cells_set (cells_set (cells_set (show W.heap[g]? = _ from h) _ _) _ _) _ _) _ _) _ _
theorem Zoo.put5 {W0 W : World} {L : List Th} {v : Value} {l : List α} (h : Zoo W0 W L) (i : Nat) (hi : L[i]? = some (R.row v l)) (hK : R.K = 5) (j : Nat) (hj : j < l.length) (x : α) (u0 u1 u2 u3 u4 : Value) (hx : R.enc x = [u0, u1, u2, u3, u4]) :
    ∃ g cap, v = .slice (some ⟨g, 0, none⟩) l.length cap ∧ W0.heap.size ≤ g ∧ g < W.heap.size ∧ (∀ r, r < 5 → W.cell? ⟨g, j * 5 + r, none⟩ = (R.enc l[j])[r]?) ∧ (∀ k, W.frozen? ⟨g, k, none⟩ = false) ∧ Zoo W0 (((((W.setCell ⟨g, j * 5, none⟩ u0).setCell ⟨g, j * 5 + 1, none⟩ u1).setCell ⟨g, j * 5 + 2, none⟩ u2).setCell ⟨g, j * 5 + 3, none⟩ u3).setCell ⟨g, j * 5 + 4, none⟩ u4) (L.set i (R.row v (l.set j x))) := by
  obtain ⟨F, ⟨ho, hF⟩, hlow, hact⟩ := h.act i _ hi
  obtain ⟨g, cap, rest, rfl, -, hg, hrow, hback⟩ := ho.row (by omega)
  have h2 := hback _ _ l.length (Nat.le_refl _) (by rw [List.length_set]) (hrow.put5 hK j hj x u0 u1 u2 u3 u4 hx)
  rw [List.take_of_length_le (by rw [List.length_set]; exact Nat.le_refl _)] at h2
  have hk := (((((KeptB.refl W g).set (j * 5) u0).set (j * 5 + 1) u1).set (j * 5 + 2) u2).set (j * 5 + 3) u3).set (j * 5 + 4) u4
  refine ⟨g, cap, rfl, hlow g ((hF g).2 rfl), hg, fun r hr1 => by have := hrow.cell j r hj (by omega); rwa [hK] at this, hrow.free, hact _ F _ ⟨h2, hF⟩ (hk.grows hF rfl)⟩
/-- 'append(v, v2...)' at the list of a plain region -/
theorem RT.wpList_append (R : RT α) {w : World} {ops : Array Oper} {rest : List Oper} {o : Oper} {a : Act} {Q : Exit → Act → World → Prop} (hgd : o.guard = none) (s x : Operand)
    (ho : o.op = .call { callee := .builtin .append, args := #[s, x], argTypes := #[R.ts, R.ts] })
    (v v2 : Value) (l news : List α) (hs : a.eval s = v) (hx : a.eval x = v2) (hown : R.Own w v l) (h2 : Rd w v2 news.length (R.cells news)) (hlen : l.length + news.length ≤ 1000000)
    (h : ∀ v' w', R.Own w' v' (l ++ news) → w.grownBy w' v.ownBlock → (∀ g, v'.ownBlock = some g → v.ownBlock = some g ∨ w.heap.size ≤ g) → wpList Try.prog ops Q rest (a.put o.dst v') w') : wpList Try.prog ops Q (o :: rest) a w := by
  have hbb := R.bb
  refine wpList_append_rd hgd s x R.ts ho 0 R.t _ R.K R.bytes R.und R.info R.zs R.pos v v2 l.length news.length (R.cells l) (R.cells news) hs hx hown h2 (R.cells_len _) (R.cells_one _) (by unfold maxLen; omega) (by
    have := Nat.mul_le_mul (show l.length + news.length ≤ 1000000 from hlen) hbb
    omega) (Nat.zero_le _) ?_
  intro v' w' ho' hg' hat
  refine h v' w' ?_ hg' hat
  unfold RT.Own
  rw [List.length_append, R.cells_app]
  exact ho'
/-- .. at a step of a region that draws its order -/
theorem RT.step_append (R : RT α) {w : World} {ops : Array Oper} {o : Oper} {a : Act} {K : Act → World → Prop} {Q : Exit → Act → World → Prop} {E : Prop} (hgd : o.guard = none) (s x : Operand)
    (ho : o.op = .call { callee := .builtin .append, args := #[s, x], argTypes := #[R.ts, R.ts] })
    (v v2 : Value) (l news : List α) (hs : a.eval s = v) (hx : a.eval x = v2) (hown : R.Own w v l) (h2 : Rd w v2 news.length (R.cells news)) (hlen : l.length + news.length ≤ 1000000)
    (h : ∀ v' w', R.Own w' v' (l ++ news) → w.grownBy w' v.ownBlock → (∀ g, v'.ownBlock = some g → v.ownBlock = some g ∨ w.heap.size ≤ g) → K (a.put o.dst v') w') :
    if Region.wanted o (yielded ops a.tmps) = true then Oper.wp Try.prog o a w K Q else E := by
  have hw : Region.wanted o (yielded ops a.tmps) = true := by simp [Region.wanted, hgd]
  rw [if_pos hw]
  have hbb := R.bb
  refine wp_append_rd s x R.ts ho 0 R.t _ R.K R.bytes R.und R.info R.zs R.pos v v2 l.length news.length (R.cells l) (R.cells news) hs hx hown h2 (R.cells_len _) (R.cells_one _) (by unfold maxLen; omega) (by
    have := Nat.mul_le_mul (show l.length + news.length ≤ 1000000 from hlen) hbb
    omega) (Nat.zero_le _) ?_
  intro v' w' ho' hg' hat
  refine h v' w' ?_ hg' hat
  unfold RT.Own
  rw [List.length_append, R.cells_app]
  exact ho'
/-- a row that is only read: a part of it -/
theorem RT.rd_take (R : RT α) {W : World} {ao : Option Addr} {cap : Nat} {l : List α} (h : Rd W (.slice ao l.length cap) l.length (R.cells l)) (i : Nat) (hi : i ≤ l.length) : Rd W (.slice ao i cap) (l.take i).length (R.cells (l.take i)) := by
  obtain ⟨ao', cap', hv', h1⟩ := h
  injection hv' with e1 e2 e3
  subst e1 e3
  have hli : (l.take i).length = i := by rw [List.length_take]; omega
  rw [hli]
  refine ⟨_, _, rfl, ?_⟩
  rcases h1 with h1 | ⟨b, o, hb, hlt, hle, hc⟩
  · left; omega
  · right
    refine ⟨b, o, hb, hlt, by omega, fun j u hu => hc j u ?_⟩
    have e : R.cells l = R.cells (l.take i) ++ R.cells (l.drop i) := by rw [← R.cells_app, List.take_append_drop]
    rw [e, List.getElem?_append_left]
    · exact hu
    · exact (List.getElem?_eq_some_iff.1 hu).1
theorem RT.rd_drop (R : RT α) {W : World} {g o cap : Nat} {l : List α} (h : Rd W (.slice (some ⟨g, o, none⟩) l.length cap) l.length (R.cells l)) (i cap2 : Nat) (hi : i ≤ l.length) (hc2 : l.length - i ≤ cap2) (n : Nat) (hn : n = l.length - i) : Rd W (.slice (some ⟨g, o + i * R.K, none⟩) n cap2) (l.drop i).length (R.cells (l.drop i)) := by
  subst hn
  obtain ⟨ao', cap', hv', h1⟩ := h
  injection hv' with e1 e2 e3
  subst e1 e3
  have hli : (l.drop i).length = l.length - i := List.length_drop
  rw [hli]
  refine ⟨_, _, rfl, ?_⟩
  rcases h1 with h1 | ⟨b, o', hb, hlt, hle, hc⟩
  · left; omega
  · right
    injection hb with hb
    injection hb with hb1 hb2 _
    subst hb1 hb2
    refine ⟨g, o + i * R.K, rfl, hlt, hc2, fun j u hu => ?_⟩
    have := hc (i * R.K + j) u (by
      have e : R.cells l = R.cells (l.take i) ++ R.cells (l.drop i) := by rw [← R.cells_app, List.take_append_drop]
      have e2 : (R.cells (l.take i)).length = i * R.K := by rw [R.cells_len, List.length_take]; congr 1; omega
      rw [e, List.getElem?_append_right (by omega), e2, Nat.add_sub_cancel_left]
      exact hu)
    rwa [← Nat.add_assoc] at this
/-- an element of a row that is only read -/
theorem RT.rd_cells (R : RT α) {W : World} {v : Value} {l : List α} (h : Rd W v l.length (R.cells l)) {j : Nat} (hj : j < l.length) : ∃ b o cap, v = .slice (some ⟨b, o, none⟩) l.length cap ∧ l.length ≤ cap ∧ b < W.heap.size ∧ ∀ r u, (R.enc l[j])[r]? = some u → W.cell? ⟨b, o + (j * R.K + r), none⟩ = some u := by
  obtain ⟨ao, cap, rfl, h1⟩ := h
  rcases h1 with h1 | ⟨b, o, rfl, hlt, hle, hc⟩
  · omega
  · refine ⟨b, o, cap, rfl, hle, hlt, fun r u hu => hc _ u ?_⟩
    have hr : r < R.K := by have := (List.getElem?_eq_some_iff.1 hu).1; rwa [R.len] at this
    rw [R.cells_get l j hj r hr]; exact hu
end
end Go.Proofs.Ytcnebfmlelcliaa
namespace Go.Proofs.Ytcnebfmlelcliaa
open Go.RowKit
section
variable {α : Type} {R : RT α}
/-- v is a row of the call's own that holds l, or the first part of one, with no room behind it -/
def RT.OwnC (R : RT α) (W : World) (v : Value) (l : List α) : Prop := R.Own W v l ∨ ∃ g rest, v = .slice (some ⟨g, 0, none⟩) l.length l.length ∧ R.PR W g l rest
theorem RT.OwnC.len {W : World} {v : Value} {l : List α} (h : R.OwnC W v l) : ∃ a c, v = .slice a l.length c := by
  rcases h with h | ⟨g, rest, rfl, -⟩
  · exact h.len
  · exact ⟨_, _, rfl⟩
theorem RT.OwnC.lt {W : World} {v : Value} {l : List α} (h : R.OwnC W v l) {g : Nat} (hg : v.ownBlock = some g) : g < W.heap.size := by
  rcases h with h | ⟨g', rest, rfl, hr⟩
  · exact h.lt hg
  · injection hg with hg
    subst hg
    exact (Array.getElem?_eq_some_iff.1 hr).1
theorem RT.OwnC.block {W W' : World} {v : Value} {l : List α} (h : R.OwnC W v l) (hk : ∀ g, v.ownBlock = some g → W'.heap[g]? = W.heap[g]?) : R.OwnC W' v l := by
  rcases h with h | ⟨g, rest, rfl, hr⟩
  · exact .inl (h.block hk)
  · exact .inr ⟨g, rest, rfl, (hk g rfl).trans hr⟩
theorem RT.OwnC.below {W W' : World} {v : Value} {l : List α} (h : R.OwnC W v l) (hb : Below W.heap.size W W') : R.OwnC W' v l := h.block (fun g hg => hb.block g (h.lt hg))
theorem RT.OwnC.rd {W : World} {v : Value} {l : List α} (h : R.OwnC W v l) : Rd W v l.length (R.cells l) := by
  rcases h with h | ⟨g, rest, rfl, hr⟩
  · exact h.rd
  · refine ⟨_, _, rfl, .inr ⟨g, 0, rfl, (Array.getElem?_eq_some_iff.1 hr).1, Nat.le_refl _, fun j u hu => ?_⟩⟩
    have hj := (List.getElem?_eq_some_iff.1 hu).1
    rw [Nat.zero_add, cell_at hr j, List.getElem?_toArray, List.getElem?_append_left hj]
    exact hu
theorem RT.OwnC.cut {W : World} {a : Option Addr} {c : Nat} {l : List α} (h : R.OwnC W (.slice a l.length c) l) {i : Nat} (hi : i ≤ l.length) : R.OwnC W (.slice a i i) (l.take i) := by
  have hlt : (l.take i).length = i := by rw [List.length_take]; omega
  have hcl : R.cells l = R.cells (l.take i) ++ R.cells (l.drop i) := by rw [← R.cells_app, List.take_append_drop]
  rcases h with h | ⟨g, rest, he, hr⟩
  · rcases h.2 with ⟨he, hn⟩ | ⟨g, cap, cur, he, hb, hg, hc, hm, hs, ht⟩
    · injection he with e1 e2 e3
      subst e1
      have : i = 0 := by omega
      subst this
      exact .inl (RT.Own.nil R W)
    · injection he with e1 e2 e3
      subst e1
      refine .inr ⟨g, R.cells (l.drop i) ++ cur.toList.drop (l.length * R.K), by rw [hlt], ?_⟩
      unfold RT.PR
      rw [← List.append_assoc, ← hcl, ← ht, List.take_append_drop]
      exact hg
  · injection he with e1 e2 e3
    subst e1
    refine .inr ⟨g, R.cells (l.drop i) ++ rest, by rw [hlt], ?_⟩
    unfold RT.PR
    rw [← List.append_assoc, ← hcl]
    exact hr
/-- a part of it behind an element -/
theorem RT.OwnC.rdDrop {W : World} {g o cap : Nat} {l : List α} (h : R.OwnC W (.slice (some ⟨g, o, none⟩) l.length cap) l) (i : Nat) (hi : i ≤ l.length) (hc : l.length ≤ cap) (n c2 : Nat) (hn : n = l.length - i) (hc2 : c2 = cap - i) : Rd W (.slice (some ⟨g, o + i * R.K, none⟩) n c2) (l.drop i).length (R.cells (l.drop i)) :=
  R.rd_drop h.rd i c2 hi (by omega) n hn
theorem RT.OwnC.rdIf {W : World} {g cap : Nat} {l : List α} (h : R.OwnC W (.slice (some ⟨g, 0, none⟩) l.length cap) l) (i : Nat) (hi : i ≤ l.length) (hc : l.length ≤ cap) : Rd W (.slice (if cap = i then some ⟨g, 0, none⟩ else some ⟨g, i * R.K, none⟩) (l.length - i) (cap - i)) (l.drop i).length (R.cells (l.drop i)) := by
  by_cases e : cap = i
  · rw [if_pos e]
    have h0 : l.length - i = 0 := by omega
    have h1 : l.drop i = [] := List.drop_of_length_le (by omega)
    rw [h1, h0]
    exact ⟨_, _, rfl, .inl rfl⟩
  · rw [if_neg e]
    have := h.rdDrop i hi hc _ _ rfl rfl
    rwa [Nat.zero_add] at this
theorem RT.OwnC.row {W : World} {v : Value} {l : List α} (h : R.OwnC W v l) (hpos : 0 < l.length) : ∃ g cap rest, v = .slice (some ⟨g, 0, none⟩) l.length cap ∧ l.length ≤ cap ∧ g < W.heap.size ∧ R.PR W g l rest ∧ ∀ W' (l' : List α), l'.length = l.length → R.PR W' g l' rest → R.OwnC W' (.slice (some ⟨g, 0, none⟩) l.length cap) l' := by
  rcases h with h | ⟨g, rest, rfl, hr⟩
  · obtain ⟨g, cap, rest, rfl, hc, hg, hr, hback⟩ := h.row hpos
    refine ⟨g, cap, rest, rfl, hc, hg, hr, fun W' l' hl hr' => .inl ?_⟩
    have := hback W' l' l.length (Nat.le_refl _) hl hr'
    rwa [List.take_of_length_le (Nat.le_of_eq hl)] at this
  · exact ⟨g, _, rest, rfl, Nat.le_refl _, (Array.getElem?_eq_some_iff.1 hr).1, hr, fun W' l' hl hr' => .inr ⟨g, rest, by rw [hl], hr'⟩⟩
/-- such a row as a thing -/
def RT.rowC (R : RT α) (v : Value) (l : List α) : Th := ⟨fun F W => R.OwnC W v l ∧ ∀ k, F k ↔ v.ownBlock = some k, fun _ _ h k hk => h.1.lt ((h.2 k).1 hk), fun _ _ _ h hk => ⟨h.1.block (fun g hg => hk g ((h.2 g).2 hg)), h.2⟩⟩
theorem Zoo.ownC {W0 W : World} {L : List Th} {v : Value} {l : List α} (h : Zoo W0 W L) (i : Nat) (hi : L[i]? = some (R.rowC v l)) : R.OwnC W v l := by
  obtain ⟨F, h1, _⟩ := h.get i _ hi
  exact h1.1
theorem Zoo.newRowC {W0 W W' : World} {L : List Th} (h : Zoo W0 W L) (hb : Below W.heap.size W W') {v : Value} {l : List α} (ho : R.OwnC W' v l) (hf : ∀ g, v.ownBlock = some g → W.heap.size ≤ g) : Zoo W0 W' (R.rowC v l :: L) :=
  h.more hb _ (fun k => v.ownBlock = some k) ⟨ho, fun _ => Iff.rfl⟩ hf
/-- one field of one element is written -/
theorem Zoo.putFieldC {W0 W : World} {L : List Th} {v : Value} {l : List α} (h : Zoo W0 W L) (i : Nat) (hi : L[i]? = some (R.rowC v l)) (j : Nat) (hj : j < l.length) (r : Nat) (hr : r < R.K) (u : Value) (x : α) (hx : R.enc x = (R.enc l[j]).set r u) :
    ∃ g cap, v = .slice (some ⟨g, 0, none⟩) l.length cap ∧ W0.heap.size ≤ g ∧ g < W.heap.size ∧ (∀ r, r < R.K → W.cell? ⟨g, j * R.K + r, none⟩ = (R.enc l[j])[r]?) ∧ (∀ k, W.frozen? ⟨g, k, none⟩ = false) ∧ Zoo W0 (W.setCell ⟨g, j * R.K + r, none⟩ u) (L.set i (R.rowC v (l.set j x))) := by
  obtain ⟨F, ⟨ho, hF⟩, hlow, hact⟩ := h.act i _ hi
  obtain ⟨g, cap, rest, rfl, -, hg, hrow, hback⟩ := ho.row (by omega)
  have h2 := hback _ _ (by rw [List.length_set]) (hrow.put j r hj hr u x hx)
  exact ⟨g, cap, rfl, hlow g ((hF g).2 rfl), hg, fun r hr1 => hrow.cell j r hj hr1, hrow.free, hact _ _ _ ⟨h2, fun _ => Iff.rfl⟩ (grows_set hF rfl u (fun k hk => hk))⟩
theorem run_append_emptyC {W : World} {v : Value} {l : List α} (t ty : TypeId) (ht : Try.prog.underlying t = some (.slice R.t)) (h : R.OwnC W v l) (ao : Option Addr) (c : Nat) : (Builtin.append_ #[t, t] ty #[v, .slice ao 0 c]).run Try.prog W = .ok v W := by
  obtain ⟨i, hi0, hz, hz1, hz2⟩ := info_parts R.info
  rcases h with h | ⟨g, rest, rfl, hr⟩
  · exact run_append_owned_empty 0 t ty R.t i R.K ht hi0 v l.length _ h ao c
  · cases ao <;> simp [Builtin.append_, run_underlying ht, sizeOf, typeInfo, hi0, Builtin.lenOf, Builtin.firstCells, storeCells, loadCells, loadCellsFrom]
/-- 'append(v, v2...)' -/
theorem RT.wp_appendC (R : RT α) {w : World} {o : Oper} {a : Act} {K : Act → World → Prop} {Q : Exit → Act → World → Prop} (s x : Operand)
    (ho : o.op = .call { callee := .builtin .append, args := #[s, x], argTypes := #[R.ts, R.ts] })
    (v v2 : Value) (l news : List α) (hs : a.eval s = v) (hx : a.eval x = v2) (hown : R.OwnC w v l) (h2 : Rd w v2 news.length (R.cells news)) (hlen : l.length + news.length ≤ 1000000)
    (h : ∀ v' w', R.OwnC w' v' (l ++ news) → w.grownBy w' v.ownBlock → (∀ g, v'.ownBlock = some g → v.ownBlock = some g ∨ w.heap.size ≤ g) → K (a.put o.dst v') w') : Oper.wp Try.prog o a w K Q := by
  have hbb := R.bb
  have hby : (l.length + news.length) * R.bytes ≤ 140737488355328 := by
    have := Nat.mul_le_mul (show l.length + news.length ≤ 1000000 from hlen) hbb
    omega
  rcases hown with hown | ⟨g, rest, rfl, hr⟩
  · refine wp_append_rd s x R.ts ho 0 R.t _ R.K R.bytes R.und R.info R.zs R.pos v v2 l.length news.length (R.cells l) (R.cells news) hs hx hown h2 (R.cells_len _) (R.cells_one _) (by unfold maxLen; omega) hby (Nat.zero_le _) ?_
    intro v' w' ho' hg' hat
    refine h v' w' (.inl ?_) hg' hat
    unfold RT.Own
    rw [List.length_append, R.cells_app]
    exact ho'
  · obtain ⟨i, hi0, hz, hz1, hz2⟩ := info_parts R.info
    obtain ⟨ao, cap, rfl, h3⟩ := h2
    rcases Nat.eq_zero_or_pos news.length with hn | hm
    · have hnil := List.eq_nil_of_length_eq_zero hn
      subst hnil
      have hrun := run_append_emptyC (R := R) R.ts o.type R.und (.inr ⟨g, rest, rfl, hr⟩ : R.OwnC w _ l) ao cap
      rw [List.length_nil] at hx
      unfold Oper.wp
      simp [execOp, ho, resolve, invoke, builtin, hs, hx, hrun, Result.andThen]
      exact h _ _ (.inr ⟨g, rest, by simp, by simpa using hr⟩) ⟨rfl, rfl, rfl, Nat.le_refl _, fun _ _ _ => rfl⟩ (fun g hg => .inl hg)
    · rcases h3 with h3 | ⟨b, off, rfl, hlt, _, hc⟩
      · omega
      · have hold : ∀ j u, (R.cells l)[j]? = some u → w.cell? ((⟨g, 0, none⟩ : Addr).add j) = some u := fun j u hu => by
          have hj := (List.getElem?_eq_some_iff.1 hu).1
          rw [Addr.add_lit, Nat.zero_add, cell_at hr j, List.getElem?_toArray, List.getElem?_append_left hj]
          exact hu
        obtain ⟨v', w', hrun, r1, r2⟩ := run_append_arg_grows (P := Try.prog) w R.ts o.type R.t i R.z R.K R.bytes R.und hi0 hz hz1 hz2 R.zs R.pos ⟨g, 0, none⟩ l.length l.length (R.cells l) (R.cells_len _) hold ⟨b, off, none⟩ news.length cap (R.cells news) (R.cells_len _) (fun j u hu => by rw [Addr.add_lit]; exact hc j u hu) (by omega) (by unfold maxLen; omega) hby
        unfold Oper.wp
        simp [execOp, ho, resolve, invoke, builtin, hs, hx, hrun, Result.andThen]
        refine h v' w' (.inl ?_) ⟨r2.os, r2.tape, r2.output, r2.size, fun k hk _ => r2.block k hk (by simp)⟩ (fun k hk => .inr (World.ownsRow.lt r1 k hk).1)
        have r3 : w'.ownsRow 0 R.t R.K v' (l ++ news).length (R.cells (l ++ news)) := by
          rw [List.length_append, R.cells_app]
          refine ⟨r1.1, ?_⟩
          rcases r1.2 with q | ⟨g1, cap1, cur1, q1, q2, q3⟩
          · exact .inl q
          · exact .inr ⟨g1, cap1, cur1, q1, Nat.zero_le _, q3⟩
        exact r3
theorem RT.wpList_appendC (R : RT α) {w : World} {ops : Array Oper} {rest : List Oper} {o : Oper} {a : Act} {Q : Exit → Act → World → Prop} (hgd : o.guard = none) (s x : Operand)
    (ho : o.op = .call { callee := .builtin .append, args := #[s, x], argTypes := #[R.ts, R.ts] })
    (v v2 : Value) (l news : List α) (hs : a.eval s = v) (hx : a.eval x = v2) (hown : R.OwnC w v l) (h2 : Rd w v2 news.length (R.cells news)) (hlen : l.length + news.length ≤ 1000000)
    (h : ∀ v' w', R.OwnC w' v' (l ++ news) → w.grownBy w' v.ownBlock → (∀ g, v'.ownBlock = some g → v.ownBlock = some g ∨ w.heap.size ≤ g) → wpList Try.prog ops Q rest (a.put o.dst v') w') : wpList Try.prog ops Q (o :: rest) a w :=
  wpList_plain hgd fun _ hK => R.wp_appendC s x ho v v2 l news hs hx hown h2 hlen fun v' w' h2 h3 h4 => hK _ _ (h v' w' h2 h3 h4)
theorem RT.step_appendC (R : RT α) {w : World} {ops : Array Oper} {o : Oper} {a : Act} {K : Act → World → Prop} {Q : Exit → Act → World → Prop} {E : Prop} (hgd : o.guard = none) (s x : Operand)
    (ho : o.op = .call { callee := .builtin .append, args := #[s, x], argTypes := #[R.ts, R.ts] })
    (v v2 : Value) (l news : List α) (hs : a.eval s = v) (hx : a.eval x = v2) (hown : R.OwnC w v l) (h2 : Rd w v2 news.length (R.cells news)) (hlen : l.length + news.length ≤ 1000000)
    (h : ∀ v' w', R.OwnC w' v' (l ++ news) → w.grownBy w' v.ownBlock → (∀ g, v'.ownBlock = some g → v.ownBlock = some g ∨ w.heap.size ≤ g) → K (a.put o.dst v') w') :
    if Region.wanted o (yielded ops a.tmps) = true then Oper.wp Try.prog o a w K Q else E := by
  have hw : Region.wanted o (yielded ops a.tmps) = true := by simp [Region.wanted, hgd]
  rw [if_pos hw]
  exact R.wp_appendC s x ho v v2 l news hs hx hown h2 hlen h
/-- .. and what lies apart from it stays -/
theorem Zoo.appC {W0 W W' : World} {L : List Th} {v v' : Value} {l l' : List α} (h : Zoo W0 W L) (i : Nat) (hi : L[i]? = some (R.rowC v l)) (ho : R.OwnC W' v' l') (hg : W.grownBy W' v.ownBlock) (hat : ∀ g, v'.ownBlock = some g → v.ownBlock = some g ∨ W.heap.size ≤ g) : Zoo W0 W' (L.set i (R.rowC v' l')) := by
  obtain ⟨F, ⟨_, hF⟩, hlow, hact⟩ := h.act i _ hi
  exact hact _ _ _ ⟨ho, fun _ => Iff.rfl⟩ (grows_row hF hg hat)
end
end Go.Proofs.Ytcnebfmlelcliaa
namespace Go.Proofs.Ytcnebfmlelcliaa
open Go.RowKit

structure Lt where
  uid : Nat
  flags : List (List UInt8)
  mod : Nat
  hash : ByteArray
  size : Nat
structure Bx where
  name : ByteArray
  validity : Nat
  next : Nat
  high : Nat
  letters : List Lt
structure St where
  session : Nat
  last : Nat
  node : Int
  life : Nat
  try_ : Nat
structure Hm where
  node : Int
  life : Nat
  try_ : Nat
structure Ml where
  boxes : List Bx
  nv : Nat
  homes : List Hm
  seats : List St
  ns : Nat
  sweeps : Nat
/-- a letter, and where its flags lie -/
structure LtV where
  x : Lt
  a : Option Addr
  c : Nat
def LtV.v (y : LtV) : Value := .slice y.a y.x.flags.length y.c
/-- a mailbox, and where its letters lie -/
structure BxV where
  name : ByteArray
  validity : Nat
  next : Nat
  high : Nat
  rows : List LtV
  a : Option Addr
  c : Nat
def BxV.v (y : BxV) : Value := .slice y.a y.rows.length y.c
def BxV.b (y : BxV) : Bx := ⟨y.name, y.validity, y.next, y.high, y.rows.map LtV.x⟩
def ltCells (y : LtV) : List Value := [.int .u64 y.x.uid, y.v, .int .u64 y.x.mod, .string y.x.hash, .int .u64 y.x.size]
def bxCells (y : BxV) : List Value := [.string y.name, .int .u64 y.validity, .int .u64 y.next, .int .u64 y.high, y.v]
def stCells (x : St) : List Value := [.int .u64 x.session, .int .u64 x.last, .int .i64 x.node, .int .u64 x.life, .int .u64 x.try_]
def hmCells (x : Hm) : List Value := [.int .i64 x.node, .int .u64 x.life, .int .u64 x.try_]
def ltT : RT LtV where
  enc := ltCells
  K := 5
  t := 66
  ts := 26
  z := .agg #[.int .u64 0, .slice none 0 0, .int .u64 0, .string ⟨#[]⟩, .int .u64 0]
  bytes := 64
  len := fun _ => rfl
  one := fun x u hu => by simp [ltCells, LtV.v] at hu; rcases hu with rfl | rfl | rfl | rfl | rfl <;> rfl
  pos := by decide
  und := Try.underlying26
  info := by kernel_rfl
  zs := rfl
  bb := by decide
def bxT : RT BxV where
  enc := bxCells
  K := 5
  t := 28
  ts := 43
  z := .agg #[.string ⟨#[]⟩, .int .u64 0, .int .u64 0, .int .u64 0, .slice none 0 0]
  bytes := 64
  len := fun _ => rfl
  one := fun x u hu => by simp [bxCells, BxV.v] at hu; rcases hu with rfl | rfl | rfl | rfl | rfl <;> rfl
  pos := by decide
  und := Try.underlying43
  info := by kernel_rfl
  zs := rfl
  bb := by decide
def stT : RT St where
  enc := stCells
  K := 5
  t := 108
  ts := 45
  z := .agg #[.int .u64 0, .int .u64 0, .int .i64 0, .int .u64 0, .int .u64 0]
  bytes := 40
  len := fun _ => rfl
  one := fun x u hu => by simp [stCells] at hu; rcases hu with rfl | rfl | rfl | rfl | rfl <;> rfl
  pos := by decide
  und := Try.underlying45
  info := by kernel_rfl
  zs := rfl
  bb := by decide
def hmT : RT Hm where
  enc := hmCells
  K := 3
  t := 106
  ts := 44
  z := .agg #[.int .i64 0, .int .u64 0, .int .u64 0]
  bytes := 24
  len := fun _ => rfl
  one := fun x u hu => by simp [hmCells] at hu; rcases hu with rfl | rfl | rfl <;> rfl
  pos := by decide
  und := Try.underlying44
  info := by kernel_rfl
  zs := rfl
  bb := by decide
/-- a slice that reads as a list of flags -/
def FlIn (W : World) (v : Value) (l : List (List UInt8)) : Prop := Rd W v l.length (l.map encStr)
/-- the letters of a row, their flags -/
def LtsOk (W : World) (l : List LtV) : Prop := ∀ y ∈ l, FlIn W y.v y.x.flags
def LtsIn (W : World) (v : Value) (l : List LtV) : Prop := Rd W v l.length (ltT.cells l) ∧ LtsOk W l
def BxsOk (W : World) (l : List BxV) : Prop := ∀ y ∈ l, LtsIn W y.v y.rows
def BxsIn (W : World) (v : Value) (l : List BxV) : Prop := Rd W v l.length (bxT.cells l) ∧ BxsOk W l
def StsIn (W : World) (v : Value) (l : List St) : Prop := Rd W v l.length (stT.cells l)
def HmsIn (W : World) (v : Value) (l : List Hm) : Prop := Rd W v l.length (hmT.cells l)
theorem LtsOk.below {W W' : World} {l : List LtV} (h : LtsOk W l) (hb : Below W.heap.size W W') : LtsOk W' l := fun y hy => (h y hy).below hb
theorem LtsIn.below {W W' : World} {v : Value} {l : List LtV} (h : LtsIn W v l) (hb : Below W.heap.size W W') : LtsIn W' v l := ⟨h.1.below hb, h.2.below hb⟩
theorem BxsOk.below {W W' : World} {l : List BxV} (h : BxsOk W l) (hb : Below W.heap.size W W') : BxsOk W' l := fun y hy => (h y hy).below hb
theorem BxsIn.below {W W' : World} {v : Value} {l : List BxV} (h : BxsIn W v l) (hb : Below W.heap.size W W') : BxsIn W' v l := ⟨h.1.below hb, h.2.below hb⟩
def mlVal (vb : Value) (nv : Nat) (vh vs : Value) (ns sw : Nat) : Value := .agg #[vb, .int .u64 nv, vh, vs, .int .u64 ns, .int .u64 sw]
/-- v reads as the state m -/
def MlIn (W : World) (v : Value) (m : Ml) : Prop := ∃ (vb vh vs : Value) (bs : List BxV), v = mlVal vb m.nv vh vs m.ns m.sweeps ∧ bs.map BxV.b = m.boxes ∧ BxsIn W vb bs ∧ HmsIn W vh m.homes ∧ StsIn W vs m.seats
theorem MlIn.below {W W' : World} {v : Value} {m : Ml} (h : MlIn W v m) (hb : Below W.heap.size W W') : MlIn W' v m := by
  obtain ⟨vb, vh, vs, bs, h1, h2, h3, h4, h5⟩ := h
  exact ⟨vb, vh, vs, bs, h1, h2, h3.below hb, Rd.below h4 hb, Rd.below h5 hb⟩
end Go.Proofs.Ytcnebfmlelcliaa
