/- Rows of structs of the call's own, of whatever type: what they hold, how they are read, written and appended to. What mail is made of: letters, mailboxes, seats, homes, a state; how they lie in memory. slices.Clone at letters, mailboxes, seats, homes and texts: walked. Flags among other things; things joined, merged, in another order. mail.cloneBox: walked. -/
import Derived.Test.YtcnebfmlelcliaaGreatB01
import Derived.Test.YtcnebfmlelcliaaGreatProg
import Derived.Test.YtcnebfmlelcliaaGreatChecked
import Derived.Sort.EncStr
import Derived.Laws.ResultCell
namespace Go.Proofs.YtcnebfmlelcliaaGreat
open Go.RowKit

theorem cell_at {W : World} {b : Nat} {C : Array Value} {t : TypeId} (h : W.heap[b]? = some (.cells C t (0, 0))) (j : Nat) : W.cell? ⟨b, j, none⟩ = C[j]? := by simp [World.cell?, h]
theorem free_at {W : World} {b : Nat} {C : Array Value} {t : TypeId} (h : W.heap[b]? = some (.cells C t (0, 0))) (j : Nat) : W.frozen? ⟨b, j, none⟩ = false := by simp [World.frozen?, h]
theorem cells_set {W : World} {g : Nat} {C : List Value} {t : TypeId} (h : W.heap[g]? = some (.cells C.toArray t (0, 0))) (j : Nat) (v : Value) : (W.setCell ⟨g, j, none⟩ v).heap[g]? = some (.cells (C.set j v).toArray t (0, 0)) := by
  simp only [World.setCell, Array.getElem?_modify, h, if_true, Option.map_some]
  rw [← List.setIfInBounds_toArray]
  rfl
/-- a type of structs that rows are made of: its elements' cells -/
structure RT (α : Type) where
  enc : α → List Value
  K : Nat
  t : TypeId
  ts : TypeId
  z : Value
  bytes : Nat
  len : ∀ x, (enc x).length = K
  one : ∀ x, ∀ u ∈ enc x, u.oneCell' = true
  pos : 0 < K
  und : Tryz.prog.underlying ts = some (.slice t)
  info : (Tryz.prog.info? t).map (fun i => (i.zero, i.size, i.bytes)) = some (some z, K, bytes)
  zs : z.cells.size = K
  bb : bytes ≤ 4096
section
variable {α : Type} (R : RT α)
def RT.cells (l : List α) : List Value := l.flatMap R.enc
theorem RT.cells_len : ∀ (l : List α), (R.cells l).length = l.length * R.K
  | [] => by simp [RT.cells]
  | k :: r => by
    have := RT.cells_len r
    unfold RT.cells at this ⊢
    rw [List.flatMap_cons, List.length_append, this, List.length_cons, R.len, Nat.succ_mul]
    omega
theorem RT.cells_app (a b : List α) : R.cells (a ++ b) = R.cells a ++ R.cells b := List.flatMap_append
theorem RT.cells_one (l : List α) : ∀ u ∈ R.cells l, u.oneCell' = true := fun u hu => by
  obtain ⟨x, _, hx⟩ := List.mem_flatMap.1 hu
  exact R.one x u hx
theorem RT.cells_get : ∀ (l : List α) (j : Nat) (hj : j < l.length) (r : Nat), r < R.K → (R.cells l)[j * R.K + r]? = (R.enc l[j])[r]?
  | k :: l, 0, _, r, hr => by
    unfold RT.cells
    rw [List.flatMap_cons, List.getElem?_append_left (by rw [R.len]; omega)]
    simp
  | k :: l, j + 1, hj, r, hr => by
    have := RT.cells_get l j (by simpa using hj) r hr
    unfold RT.cells at this ⊢
    rw [List.flatMap_cons, List.getElem?_append_right (by rw [R.len, Nat.succ_mul]; omega), List.getElem_cons_succ, ← this, R.len]
    congr 1
    rw [Nat.succ_mul]; omega
/-- v is a row of the call's own that holds l -/
def RT.Own (W : World) (v : Value) (l : List α) : Prop := W.ownsRow 0 R.t R.K v l.length (R.cells l)
/-- block g is a row of l, and what lies behind -/
def RT.PR (W : World) (g : Nat) (l : List α) (rest : List Value) : Prop := W.heap[g]? = some (.cells (R.cells l ++ rest).toArray R.t (0, 0))
variable {R}
theorem RT.Own.len {W : World} {v : Value} {l : List α} (h : R.Own W v l) : ∃ a c, v = .slice a l.length c := by
  rcases h.2 with ⟨rfl, hn⟩ | ⟨g, cap, cur, rfl, _⟩
  · exact ⟨none, 0, by rw [hn]⟩
  · exact ⟨_, _, rfl⟩
theorem RT.Own.block {W W' : World} {v : Value} {l : List α} (h : R.Own W v l) (hk : ∀ g, v.ownBlock = some g → W'.heap[g]? = W.heap[g]?) : R.Own W' v l := by
  refine ⟨h.1, ?_⟩
  rcases h.2 with h1 | ⟨g, cap, cur, h1, h2, h3, h4⟩
  · exact .inl h1
  · exact .inr ⟨g, cap, cur, h1, h2, (hk g (by rw [h1]; rfl)).trans h3, h4⟩
theorem RT.Own.lt {W : World} {v : Value} {l : List α} (h : R.Own W v l) {g : Nat} (hg : v.ownBlock = some g) : g < W.heap.size := (World.ownsRow.lt h g hg).2
theorem RT.Own.below {W W' : World} {v : Value} {l : List α} (h : R.Own W v l) (hb : Below W.heap.size W W') : R.Own W' v l := h.block (fun g hg => hb.block g (h.lt hg))
theorem RT.Own.rd {W : World} {v : Value} {l : List α} (h : R.Own W v l) : Rd W v l.length (R.cells l) := Rd.of_own h
theorem RT.Own.nil (R : RT α) (W : World) : R.Own W (.slice none 0 0) [] := World.ownsRow_nil _ _ _ _
theorem RT.Own.empty (R : RT α) (W : World) (n : Nat) (h : W.heap.size = n) : R.Own (W.alloc (.cells #[] R.t)) (.slice (some ⟨n, 0, none⟩) 0 0) [] := by
  subst h
  exact ⟨by simp [RT.cells], .inr ⟨W.heap.size, 0, _, rfl, Nat.zero_le _, heap_alloc_new W _, Nat.le_refl _, by unfold maxLen; omega, by simp, by simp [RT.cells]⟩⟩
theorem RT.Own.one (R : RT α) (W : World) (x : α) (n : Nat) (h : W.heap.size = n) : R.Own (W.alloc (.cells (R.enc x).toArray R.t)) (.slice (some ⟨n, 0, none⟩) 1 1) [x] := by
  subst h
  have hc : R.cells [x] = R.enc x := by simp [RT.cells]
  refine ⟨by rw [hc, R.len]; simp, .inr ⟨W.heap.size, 1, _, rfl, Nat.zero_le _, heap_alloc_new W _, Nat.le_refl _, by unfold maxLen; omega, by simp [R.len], ?_⟩⟩
  rw [hc, List.take_of_length_le (by simp [R.len])]
theorem RT.PR.cell {W : World} {g : Nat} {l : List α} {rest : List Value} (h : R.PR W g l rest) (j r : Nat) (hj : j < l.length) (hr : r < R.K) : W.cell? ⟨g, j * R.K + r, none⟩ = (R.enc l[j])[r]? := by
  rw [cell_at h (j * R.K + r)]
  simp only [List.getElem?_toArray]
  have : j * R.K + r < l.length * R.K := by
    have h1 : (j + 1) * R.K ≤ l.length * R.K := Nat.mul_le_mul_right _ hj
    rw [Nat.succ_mul] at h1; omega
  rw [List.getElem?_append_left (by rw [R.cells_len]; exact this), R.cells_get l j hj r hr]
theorem RT.PR.free {W : World} {g : Nat} {l : List α} {rest : List Value} (h : R.PR W g l rest) (j : Nat) : W.frozen? ⟨g, j, none⟩ = false := free_at h j
theorem RT.PR.put {W : World} {g : Nat} {l : List α} {rest : List Value} (h : R.PR W g l rest) (j r : Nat) (hj : j < l.length) (hr : r < R.K) (u : Value) (x : α) (hx : R.enc x = (R.enc l[j]).set r u) : R.PR (W.setCell ⟨g, j * R.K + r, none⟩ u) g (l.set j x) rest := by
  unfold RT.PR
  rw [cells_set (show W.heap[g]? = _ from h)]
  have hlt : j * R.K + r < l.length * R.K := by
    have h1 : (j + 1) * R.K ≤ l.length * R.K := Nat.mul_le_mul_right _ hj
    rw [Nat.succ_mul] at h1; omega
  have e : (R.cells l ++ rest).set (j * R.K + r) u = R.cells (l.set j x) ++ rest := by
    rw [List.set_append_left _ _ (by rw [R.cells_len]; exact hlt)]
    congr 1
    apply List.ext_getElem?
    intro i
    rw [List.getElem?_set]
    by_cases hi : i < l.length * R.K
    · have hK := R.pos
      obtain ⟨m, q, hq, rfl⟩ : ∃ m q, q < R.K ∧ i = m * R.K + q := ⟨i / R.K, i % R.K, Nat.mod_lt _ hK, by rw [Nat.mul_comm]; exact (Nat.div_add_mod i R.K).symm⟩
      have hm : m < l.length := by
        rcases Nat.lt_or_ge m l.length with h1 | h1
        · exact h1
        · have := Nat.mul_le_mul_right R.K h1; omega
      rw [R.cells_get l m hm q hq, R.cells_get (l.set j x) m (by rw [List.length_set]; exact hm) q hq, R.cells_len]
      by_cases hmj : j = m
      · subst hmj
        rw [List.getElem_set_self, hx, List.getElem?_set]
        by_cases hrq : r = q
        · subst hrq; rw [if_pos rfl, if_pos rfl, if_pos hlt, if_pos (by rw [R.len]; exact hr)]
        · rw [if_neg hrq, if_neg (by omega)]
      · rw [List.getElem_set_ne hmj, if_neg]
        intro e
        rcases Nat.lt_or_gt_of_ne hmj with h1 | h1
        · have := Nat.mul_le_mul_right R.K (show j + 1 ≤ m from h1); rw [Nat.succ_mul] at this; omega
        · have := Nat.mul_le_mul_right R.K (show m + 1 ≤ j from h1); rw [Nat.succ_mul] at this; omega
    · rw [if_neg (by omega), List.getElem?_eq_none (by rw [R.cells_len]; omega), List.getElem?_eq_none (by rw [R.cells_len, List.length_set]; omega)]
  rw [e]
theorem RT.Own.row {W : World} {v : Value} {l : List α} (h : R.Own W v l) (hpos : 0 < l.length) : ∃ g cap rest, v = .slice (some ⟨g, 0, none⟩) l.length cap ∧ l.length ≤ cap ∧ g < W.heap.size ∧ R.PR W g l rest ∧ ∀ W' (l' : List α) n, n ≤ l.length → l'.length = l.length → R.PR W' g l' rest → R.Own W' (.slice (some ⟨g, 0, none⟩) n cap) (l'.take n) := by
  rcases h.2 with ⟨rfl, hn⟩ | ⟨g, cap, cur, rfl, hb, hg, hc, hm, hs, ht⟩
  · omega
  · refine ⟨g, cap, cur.toList.drop (l.length * R.K), rfl, hc, (Array.getElem?_eq_some_iff.1 hg).1, ?_, ?_⟩
    · unfold RT.PR
      rw [← ht, List.take_append_drop]
      exact hg
    · intro W' l' n hn hl hr
      unfold RT.PR at hr
      have e : R.cells l' = R.cells (l'.take n) ++ R.cells (l'.drop n) := by rw [← R.cells_app, List.take_append_drop]
      refine ⟨by rw [R.cells_len], .inr ⟨g, cap, _, by rw [List.length_take, Nat.min_eq_left (by omega)], hb, hr, by rw [List.length_take]; omega, hm, ?_, ?_⟩⟩
      · have h1 := R.cells_len l'
        have h2 : cur.toList.length = cur.size := rfl
        simp only [List.size_toArray, List.length_append, List.length_drop, h1, h2, hl]
        have h3 : cur.size = cap * R.K := hs
        have h4 := Nat.mul_le_mul_right R.K hc
        omega
      · rw [List.toList_toArray, e, List.append_assoc, List.take_left' (R.cells_len _)]
/-- such a row as a thing -/
def RT.row (R : RT α) (v : Value) (l : List α) : Th := ⟨fun F W => R.Own W v l ∧ ∀ k, F k ↔ v.ownBlock = some k, fun _ _ h k hk => h.1.lt ((h.2 k).1 hk), fun _ _ _ h hk => ⟨h.1.block (fun g hg => hk g ((h.2 g).2 hg)), h.2⟩⟩
theorem Zoo.own {W0 W : World} {L : List Th} {v : Value} {l : List α} (h : Zoo W0 W L) (i : Nat) (hi : L[i]? = some (R.row v l)) : R.Own W v l := by
  obtain ⟨F, h1, _⟩ := h.get i _ hi
  exact h1.1
theorem RT.Own.cells {W : World} {v : Value} {l : List α} (h : R.Own W v l) {j : Nat} (hj : j < l.length) : ∃ g cap, v = .slice (some ⟨g, 0, none⟩) l.length cap ∧ l.length ≤ cap ∧ g < W.heap.size ∧ ∀ r, r < R.K → W.cell? ⟨g, j * R.K + r, none⟩ = (R.enc l[j])[r]? := by
  obtain ⟨g, cap, rest, hv, hc, hg, hr, -⟩ := h.row (by omega)
  exact ⟨g, cap, hv, hc, hg, fun r hr1 => hr.cell j r hj hr1⟩
/-- a row in new memory is a thing more -/
theorem Zoo.newRow {W0 W W' : World} {L : List Th} (h : Zoo W0 W L) (hb : Below W.heap.size W W') {v : Value} {l : List α} (ho : R.Own W' v l) (hf : ∀ g, v.ownBlock = some g → W.heap.size ≤ g) : Zoo W0 W' (R.row v l :: L) :=
  h.more hb _ (fun k => v.ownBlock = some k) ⟨ho, fun _ => Iff.rfl⟩ hf
theorem grows_row {W W' : World} {v v' : Value} {F : Foot} (hF : ∀ k, F k ↔ v.ownBlock = some k) (hg : W.grownBy W' v.ownBlock) (hat : ∀ g, v'.ownBlock = some g → v.ownBlock = some g ∨ W.heap.size ≤ g) : Grows F W (fun k => v'.ownBlock = some k) W' :=
  ⟨hg.os, hg.tape, hg.output, hg.size, fun k hk hn => hg.block k hk (fun e => hn ((hF k).2 e.symm)), fun k hk => (hat k hk).imp_left (fun h => (hF k).2 h)⟩
theorem grows_set {W : World} {v : Value} {F : Foot} (hF : ∀ k, F k ↔ v.ownBlock = some k) {g j : Nat} (hg : v.ownBlock = some g) (u : Value) {v' : Value} (hv : ∀ k, v'.ownBlock = some k → v.ownBlock = some k) : Grows F W (fun k => v'.ownBlock = some k) (W.setCell ⟨g, j, none⟩ u) :=
  ⟨rfl, rfl, rfl, by simp, fun k hk hn => heap_setCell_other W ⟨g, j, none⟩ k _ (fun e => hn ((hF k).2 (by rw [e]; exact hg))), fun k hk => .inl ((hF k).2 (hv k hk))⟩
/-- one field of one element of a row is written -/
theorem Zoo.putField {W0 W : World} {L : List Th} {v : Value} {l : List α} (h : Zoo W0 W L) (i : Nat) (hi : L[i]? = some (R.row v l)) (j : Nat) (hj : j < l.length) (r : Nat) (hr : r < R.K) (u : Value) (x : α) (hx : R.enc x = (R.enc l[j]).set r u) :
    ∃ g cap, v = .slice (some ⟨g, 0, none⟩) l.length cap ∧ W0.heap.size ≤ g ∧ g < W.heap.size ∧ (∀ r, r < R.K → W.cell? ⟨g, j * R.K + r, none⟩ = (R.enc l[j])[r]?) ∧ (∀ k, W.frozen? ⟨g, k, none⟩ = false) ∧ Zoo W0 (W.setCell ⟨g, j * R.K + r, none⟩ u) (L.set i (R.row v (l.set j x))) := by
  obtain ⟨F, ⟨ho, hF⟩, hlow, hact⟩ := h.act i _ hi
  obtain ⟨g, cap, rest, rfl, -, hg, hrow, hback⟩ := ho.row (by omega)
  have h2 := hback _ _ l.length (Nat.le_refl _) (by rw [List.length_set]) (hrow.put j r hj hr u x hx)
  rw [List.take_of_length_le (by rw [List.length_set]; exact Nat.le_refl _)] at h2
  exact ⟨g, cap, rfl, hlow g ((hF g).2 rfl), hg, fun r hr1 => hrow.cell j r hj hr1, hrow.free, hact _ _ _ ⟨h2, fun _ => Iff.rfl⟩ (grows_set hF rfl u (fun k hk => hk))⟩
/-- nothing but block g has turned -/
structure KeptB (W : World) (g : Nat) (W' : World) : Prop where
  os : W'.os = W.os
  tape : W'.tape = W.tape
  output : W'.output = W.output
  size : W'.heap.size = W.heap.size
  block : ∀ k, k ≠ g → W'.heap[k]? = W.heap[k]?
theorem KeptB.refl (W : World) (g : Nat) : KeptB W g W := ⟨rfl, rfl, rfl, rfl, fun _ _ => rfl⟩
theorem KeptB.set {W W' : World} {g : Nat} (h : KeptB W g W') (j : Nat) (u : Value) : KeptB W g (W'.setCell ⟨g, j, none⟩ u) :=
  ⟨h.os, h.tape, h.output, by simpa using h.size, fun k hk => (heap_setCell_other W' ⟨g, j, none⟩ k _ hk).trans (h.block k hk)⟩
theorem KeptB.grows {W W' : World} {g : Nat} {v : Value} {F : Foot} (h : KeptB W g W') (hF : ∀ k, F k ↔ v.ownBlock = some k) (hv : v.ownBlock = some g) : Grows F W F W' :=
  ⟨h.os, h.tape, h.output, Nat.le_of_eq h.size.symm, fun k _ hn => h.block k (fun e => hn ((hF k).2 (by rw [e]; exact hv))), fun _ hk => .inl hk⟩
set_option maxHeartbeats 4000000 in
/-- all five fields of one element of a row are written -/
theorem RT.PR.put5 {W : World} {g : Nat} {l : List α} {rest : List Value} (h : R.PR W g l rest) (hK : R.K = 5) (j : Nat) (hj : j < l.length) (x : α) (u0 u1 u2 u3 u4 : Value) (hx : R.enc x = [u0, u1, u2, u3, u4]) :
    R.PR (((((W.setCell ⟨g, j * 5, none⟩ u0).setCell ⟨g, j * 5 + 1, none⟩ u1).setCell ⟨g, j * 5 + 2, none⟩ u2).setCell ⟨g, j * 5 + 3, none⟩ u3).setCell ⟨g, j * 5 + 4, none⟩ u4) g (l.set j x) rest := by
  have hlen : (R.cells l).length = l.length * 5 := by rw [R.cells_len, hK]
  have hl2 : (R.cells (l.set j x)).length = l.length * 5 := by rw [R.cells_len, List.length_set, hK]
  have e : ((((((R.cells l ++ rest).set (j * 5) u0).set (j * 5 + 1) u1).set (j * 5 + 2) u2).set (j * 5 + 3) u3).set (j * 5 + 4) u4) = R.cells (l.set j x) ++ rest := by
    apply List.ext_getElem?
    intro i
    simp only [List.getElem?_set, List.length_set, List.length_append, hlen]
    by_cases hi : i < l.length * 5
    · obtain ⟨m, r, hr, rfl⟩ : ∃ m r, r < 5 ∧ i = m * 5 + r := ⟨i / 5, i % 5, Nat.mod_lt _ (by decide), by omega⟩
      have g1 := R.cells_get l m (by omega) r (by omega)
      have g2 := R.cells_get (l.set j x) m (by rw [List.length_set]; omega) r (by omega)
      rw [hK] at g1 g2
      rw [List.getElem?_append_left (by omega), List.getElem?_append_left (by omega), g1, g2]
      by_cases hm : j = m
      · subst hm
        rw [List.getElem_set_self, hx]
        have h5 : r = 0 ∨ r = 1 ∨ r = 2 ∨ r = 3 ∨ r = 4 := by omega
        rcases h5 with rfl | rfl | rfl | rfl | rfl
        all_goals simp
        all_goals omega
      · rw [List.getElem_set_ne hm]
        rw [if_neg (by omega), if_neg (by omega), if_neg (by omega), if_neg (by omega), if_neg (by omega)]
    · rw [List.getElem?_append_right (by omega), List.getElem?_append_right (by omega), hlen, hl2]
      rw [if_neg (by omega), if_neg (by omega), if_neg (by omega), if_neg (by omega), if_neg (by omega)]
  unfold RT.PR
  rw [← e]
  exact cells_set (cells_set (cells_set (cells_set (cells_set (show W.heap[g]? = _ from h) _ _) _ _) _ _) _ _) _ _
theorem Zoo.put5 {W0 W : World} {L : List Th} {v : Value} {l : List α} (h : Zoo W0 W L) (i : Nat) (hi : L[i]? = some (R.row v l)) (hK : R.K = 5) (j : Nat) (hj : j < l.length) (x : α) (u0 u1 u2 u3 u4 : Value) (hx : R.enc x = [u0, u1, u2, u3, u4]) :
    ∃ g cap, v = .slice (some ⟨g, 0, none⟩) l.length cap ∧ W0.heap.size ≤ g ∧ g < W.heap.size ∧ (∀ r, r < 5 → W.cell? ⟨g, j * 5 + r, none⟩ = (R.enc l[j])[r]?) ∧ (∀ k, W.frozen? ⟨g, k, none⟩ = false) ∧ Zoo W0 (((((W.setCell ⟨g, j * 5, none⟩ u0).setCell ⟨g, j * 5 + 1, none⟩ u1).setCell ⟨g, j * 5 + 2, none⟩ u2).setCell ⟨g, j * 5 + 3, none⟩ u3).setCell ⟨g, j * 5 + 4, none⟩ u4) (L.set i (R.row v (l.set j x))) := by
  obtain ⟨F, ⟨ho, hF⟩, hlow, hact⟩ := h.act i _ hi
  obtain ⟨g, cap, rest, rfl, -, hg, hrow, hback⟩ := ho.row (by omega)
  have h2 := hback _ _ l.length (Nat.le_refl _) (by rw [List.length_set]) (hrow.put5 hK j hj x u0 u1 u2 u3 u4 hx)
  rw [List.take_of_length_le (by rw [List.length_set]; exact Nat.le_refl _)] at h2
  have hk := (((((KeptB.refl W g).set (j * 5) u0).set (j * 5 + 1) u1).set (j * 5 + 2) u2).set (j * 5 + 3) u3).set (j * 5 + 4) u4
  refine ⟨g, cap, rfl, hlow g ((hF g).2 rfl), hg, fun r hr1 => by have := hrow.cell j r hj (by omega); rwa [hK] at this, hrow.free, hact _ F _ ⟨h2, hF⟩ (hk.grows hF rfl)⟩
/-- 'append(v, v2...)' at the list of a plain region -/
theorem RT.wpList_append (R : RT α) {w : World} {ops : Array Oper} {rest : List Oper} {o : Oper} {a : Act} {Q : Exit → Act → World → Prop} (hgd : o.guard = none) (s x : Operand)
    (ho : o.op = .call { callee := .builtin .append, args := #[s, x], argTypes := #[R.ts, R.ts] })
    (v v2 : Value) (l news : List α) (hs : a.eval s = v) (hx : a.eval x = v2) (hown : R.Own w v l) (h2 : Rd w v2 news.length (R.cells news)) (hlen : l.length + news.length ≤ 1000000)
    (h : ∀ v' w', R.Own w' v' (l ++ news) → w.grownBy w' v.ownBlock → (∀ g, v'.ownBlock = some g → v.ownBlock = some g ∨ w.heap.size ≤ g) → wpList Tryz.prog ops Q rest (a.put o.dst v') w') : wpList Tryz.prog ops Q (o :: rest) a w := by
  have hbb := R.bb
  refine wpList_append_rd hgd s x R.ts ho 0 R.t _ R.K R.bytes R.und R.info R.zs R.pos v v2 l.length news.length (R.cells l) (R.cells news) hs hx hown h2 (R.cells_len _) (R.cells_one _) (by unfold maxLen; omega) (by
    have := Nat.mul_le_mul (show l.length + news.length ≤ 1000000 from hlen) hbb
    omega) (Nat.zero_le _) ?_
  intro v' w' ho' hg' hat
  refine h v' w' ?_ hg' hat
  unfold RT.Own
  rw [List.length_append, R.cells_app]
  exact ho'
/-- .. at a step of a region that draws its order -/
theorem RT.step_append (R : RT α) {w : World} {ops : Array Oper} {o : Oper} {a : Act} {K : Act → World → Prop} {Q : Exit → Act → World → Prop} {E : Prop} (hgd : o.guard = none) (s x : Operand)
    (ho : o.op = .call { callee := .builtin .append, args := #[s, x], argTypes := #[R.ts, R.ts] })
    (v v2 : Value) (l news : List α) (hs : a.eval s = v) (hx : a.eval x = v2) (hown : R.Own w v l) (h2 : Rd w v2 news.length (R.cells news)) (hlen : l.length + news.length ≤ 1000000)
    (h : ∀ v' w', R.Own w' v' (l ++ news) → w.grownBy w' v.ownBlock → (∀ g, v'.ownBlock = some g → v.ownBlock = some g ∨ w.heap.size ≤ g) → K (a.put o.dst v') w') :
    if Region.wanted o (yielded ops a.tmps) = true then Oper.wp Tryz.prog o a w K Q else E := by
  have hw : Region.wanted o (yielded ops a.tmps) = true := by simp [Region.wanted, hgd]
  rw [if_pos hw]
  have hbb := R.bb
  refine wp_append_rd s x R.ts ho 0 R.t _ R.K R.bytes R.und R.info R.zs R.pos v v2 l.length news.length (R.cells l) (R.cells news) hs hx hown h2 (R.cells_len _) (R.cells_one _) (by unfold maxLen; omega) (by
    have := Nat.mul_le_mul (show l.length + news.length ≤ 1000000 from hlen) hbb
    omega) (Nat.zero_le _) ?_
  intro v' w' ho' hg' hat
  refine h v' w' ?_ hg' hat
  unfold RT.Own
  rw [List.length_append, R.cells_app]
  exact ho'
/-- a row that is only read: a part of it -/
theorem RT.rd_take (R : RT α) {W : World} {ao : Option Addr} {cap : Nat} {l : List α} (h : Rd W (.slice ao l.length cap) l.length (R.cells l)) (i : Nat) (hi : i ≤ l.length) : Rd W (.slice ao i cap) (l.take i).length (R.cells (l.take i)) := by
  obtain ⟨ao', cap', hv', h1⟩ := h
  injection hv' with e1 e2 e3
  subst e1 e3
  have hli : (l.take i).length = i := by rw [List.length_take]; omega
  rw [hli]
  refine ⟨_, _, rfl, ?_⟩
  rcases h1 with h1 | ⟨b, o, hb, hlt, hle, hc⟩
  · left; omega
  · right
    refine ⟨b, o, hb, hlt, by omega, fun j u hu => hc j u ?_⟩
    have e : R.cells l = R.cells (l.take i) ++ R.cells (l.drop i) := by rw [← R.cells_app, List.take_append_drop]
    rw [e, List.getElem?_append_left]
    · exact hu
    · exact (List.getElem?_eq_some_iff.1 hu).1
theorem RT.rd_drop (R : RT α) {W : World} {g o cap : Nat} {l : List α} (h : Rd W (.slice (some ⟨g, o, none⟩) l.length cap) l.length (R.cells l)) (i cap2 : Nat) (hi : i ≤ l.length) (hc2 : l.length - i ≤ cap2) (n : Nat) (hn : n = l.length - i) : Rd W (.slice (some ⟨g, o + i * R.K, none⟩) n cap2) (l.drop i).length (R.cells (l.drop i)) := by
  subst hn
  obtain ⟨ao', cap', hv', h1⟩ := h
  injection hv' with e1 e2 e3
  subst e1 e3
  have hli : (l.drop i).length = l.length - i := List.length_drop
  rw [hli]
  refine ⟨_, _, rfl, ?_⟩
  rcases h1 with h1 | ⟨b, o', hb, hlt, hle, hc⟩
  · left; omega
  · right
    injection hb with hb
    injection hb with hb1 hb2 _
    subst hb1 hb2
    refine ⟨g, o + i * R.K, rfl, hlt, hc2, fun j u hu => ?_⟩
    have := hc (i * R.K + j) u (by
      have e : R.cells l = R.cells (l.take i) ++ R.cells (l.drop i) := by rw [← R.cells_app, List.take_append_drop]
      have e2 : (R.cells (l.take i)).length = i * R.K := by rw [R.cells_len, List.length_take]; congr 1; omega
      rw [e, List.getElem?_append_right (by omega), e2, Nat.add_sub_cancel_left]
      exact hu)
    rwa [← Nat.add_assoc] at this
/-- an element of a row that is only read -/
theorem RT.rd_cells (R : RT α) {W : World} {v : Value} {l : List α} (h : Rd W v l.length (R.cells l)) {j : Nat} (hj : j < l.length) : ∃ b o cap, v = .slice (some ⟨b, o, none⟩) l.length cap ∧ l.length ≤ cap ∧ b < W.heap.size ∧ ∀ r u, (R.enc l[j])[r]? = some u → W.cell? ⟨b, o + (j * R.K + r), none⟩ = some u := by
  obtain ⟨ao, cap, rfl, h1⟩ := h
  rcases h1 with h1 | ⟨b, o, rfl, hlt, hle, hc⟩
  · omega
  · refine ⟨b, o, cap, rfl, hle, hlt, fun r u hu => hc _ u ?_⟩
    have hr : r < R.K := by have := (List.getElem?_eq_some_iff.1 hu).1; rwa [R.len] at this
    rw [R.cells_get l j hj r hr]; exact hu
end
end Go.Proofs.YtcnebfmlelcliaaGreat
namespace Go.Proofs.YtcnebfmlelcliaaGreat
open Go.RowKit

structure Lt where
  uid : Nat
  flags : List (List UInt8)
  mod : Nat
  hash : ByteArray
  size : Nat
structure Bx where
  name : ByteArray
  validity : Nat
  next : Nat
  high : Nat
  letters : List Lt
structure St where
  session : Nat
  last : Nat
  node : Int
  life : Nat
  try_ : Nat
structure Hm where
  node : Int
  life : Nat
  try_ : Nat
structure Ml where
  boxes : List Bx
  nv : Nat
  homes : List Hm
  seats : List St
  ns : Nat
  sweeps : Nat
/-- a letter, and where its flags lie -/
structure LtV where
  x : Lt
  a : Option Addr
  c : Nat
def LtV.v (y : LtV) : Value := .slice y.a y.x.flags.length y.c
/-- a mailbox, and where its letters lie -/
structure BxV where
  name : ByteArray
  validity : Nat
  next : Nat
  high : Nat
  rows : List LtV
  a : Option Addr
  c : Nat
def BxV.v (y : BxV) : Value := .slice y.a y.rows.length y.c
def BxV.b (y : BxV) : Bx := ⟨y.name, y.validity, y.next, y.high, y.rows.map LtV.x⟩
def ltCells (y : LtV) : List Value := [.int .u64 y.x.uid, y.v, .int .u64 y.x.mod, .string y.x.hash, .int .u64 y.x.size]
def bxCells (y : BxV) : List Value := [.string y.name, .int .u64 y.validity, .int .u64 y.next, .int .u64 y.high, y.v]
def stCells (x : St) : List Value := [.int .u64 x.session, .int .u64 x.last, .int .i64 x.node, .int .u64 x.life, .int .u64 x.try_]
def hmCells (x : Hm) : List Value := [.int .i64 x.node, .int .u64 x.life, .int .u64 x.try_]
def ltT : RT LtV where
  enc := ltCells
  K := 5
  t := 66
  ts := 31
  z := .agg #[.int .u64 0, .slice none 0 0, .int .u64 0, .string ⟨#[]⟩, .int .u64 0]
  bytes := 64
  len := fun _ => rfl
  one := fun x u hu => by simp [ltCells, LtV.v] at hu; rcases hu with rfl | rfl | rfl | rfl | rfl <;> rfl
  pos := by decide
  und := Tryz.underlying31
  info := by kernel_rfl
  zs := rfl
  bb := by decide
def bxT : RT BxV where
  enc := bxCells
  K := 5
  t := 33
  ts := 22
  z := .agg #[.string ⟨#[]⟩, .int .u64 0, .int .u64 0, .int .u64 0, .slice none 0 0]
  bytes := 64
  len := fun _ => rfl
  one := fun x u hu => by simp [bxCells, BxV.v] at hu; rcases hu with rfl | rfl | rfl | rfl | rfl <;> rfl
  pos := by decide
  und := Tryz.underlying22
  info := by kernel_rfl
  zs := rfl
  bb := by decide
def stT : RT St where
  enc := stCells
  K := 5
  t := 100
  ts := 25
  z := .agg #[.int .u64 0, .int .u64 0, .int .i64 0, .int .u64 0, .int .u64 0]
  bytes := 40
  len := fun _ => rfl
  one := fun x u hu => by simp [stCells] at hu; rcases hu with rfl | rfl | rfl | rfl | rfl <;> rfl
  pos := by decide
  und := Tryz.underlying25
  info := by kernel_rfl
  zs := rfl
  bb := by decide
def hmT : RT Hm where
  enc := hmCells
  K := 3
  t := 108
  ts := 24
  z := .agg #[.int .i64 0, .int .u64 0, .int .u64 0]
  bytes := 24
  len := fun _ => rfl
  one := fun x u hu => by simp [hmCells] at hu; rcases hu with rfl | rfl | rfl <;> rfl
  pos := by decide
  und := Tryz.underlying24
  info := by kernel_rfl
  zs := rfl
  bb := by decide
/-- a slice that reads as a list of flags -/
def FlIn (W : World) (v : Value) (l : List (List UInt8)) : Prop := Rd W v l.length (l.map encStr)
/-- the letters of a row, their flags -/
def LtsOk (W : World) (l : List LtV) : Prop := ∀ y ∈ l, FlIn W y.v y.x.flags
def LtsIn (W : World) (v : Value) (l : List LtV) : Prop := Rd W v l.length (ltT.cells l) ∧ LtsOk W l
def BxsOk (W : World) (l : List BxV) : Prop := ∀ y ∈ l, LtsIn W y.v y.rows
def BxsIn (W : World) (v : Value) (l : List BxV) : Prop := Rd W v l.length (bxT.cells l) ∧ BxsOk W l
def StsIn (W : World) (v : Value) (l : List St) : Prop := Rd W v l.length (stT.cells l)
def HmsIn (W : World) (v : Value) (l : List Hm) : Prop := Rd W v l.length (hmT.cells l)
theorem LtsOk.below {W W' : World} {l : List LtV} (h : LtsOk W l) (hb : Below W.heap.size W W') : LtsOk W' l := fun y hy => (h y hy).below hb
theorem LtsIn.below {W W' : World} {v : Value} {l : List LtV} (h : LtsIn W v l) (hb : Below W.heap.size W W') : LtsIn W' v l := ⟨h.1.below hb, h.2.below hb⟩
theorem BxsOk.below {W W' : World} {l : List BxV} (h : BxsOk W l) (hb : Below W.heap.size W W') : BxsOk W' l := fun y hy => (h y hy).below hb
theorem BxsIn.below {W W' : World} {v : Value} {l : List BxV} (h : BxsIn W v l) (hb : Below W.heap.size W W') : BxsIn W' v l := ⟨h.1.below hb, h.2.below hb⟩
def mlVal (vb : Value) (nv : Nat) (vh vs : Value) (ns sw : Nat) : Value := .agg #[vb, .int .u64 nv, vh, vs, .int .u64 ns, .int .u64 sw]
/-- v reads as the state m -/
def MlIn (W : World) (v : Value) (m : Ml) : Prop := ∃ (vb vh vs : Value) (bs : List BxV), v = mlVal vb m.nv vh vs m.ns m.sweeps ∧ bs.map BxV.b = m.boxes ∧ BxsIn W vb bs ∧ HmsIn W vh m.homes ∧ StsIn W vs m.seats
theorem MlIn.below {W W' : World} {v : Value} {m : Ml} (h : MlIn W v m) (hb : Below W.heap.size W W') : MlIn W' v m := by
  obtain ⟨vb, vh, vs, bs, h1, h2, h3, h4, h5⟩ := h
  exact ⟨vb, vh, vs, bs, h1, h2, h3.below hb, Rd.below h4 hb, Rd.below h5 hb⟩
end Go.Proofs.YtcnebfmlelcliaaGreat
namespace Go.Proofs.YtcnebfmlelcliaaGreat
open Go.RowKit

def flT : RT (List UInt8) where
  enc := fun l => [encStr l]
  K := 1
  t := 9
  ts := 48
  z := .string ⟨#[]⟩
  bytes := 16
  len := fun _ => rfl
  one := fun x u hu => by simp at hu; subst hu; rfl
  pos := by decide
  und := Tryz.underlying48
  info := by kernel_rfl
  zs := rfl
  bb := by decide
theorem flT_cells (l : List (List UInt8)) : flT.cells l = l.map encStr := by
  induction l with
  | nil => rfl
  | cons x r ih =>
    have h : flT.cells (x :: r) = encStr x :: flT.cells r := rfl
    rw [h, ih]; rfl
theorem FlIn.rd {W : World} {v : Value} {l : List (List UInt8)} (h : FlIn W v l) : Rd W v l.length (flT.cells l) := by rw [flT_cells]; exact h
theorem FlIn.of_own {W : World} {v : Value} {l : List (List UInt8)} (h : flT.Own W v l) : FlIn W v l := by have := h.rd; rwa [flT_cells] at this
/-- what a call hands back that makes a row -/
def RowRet {α : Type} (R : RT α) (l : List α) (W : World) (e : Ending) (w' : World) : Prop := ∃ v', e = .returned v' ∧ Hid (R.Own w' v' l) ∧ Hid (Below W.heap.size W w') ∧ Hid (∀ g, v'.ownBlock = some g → W.heap.size ≤ g)
set_option maxRecDepth 100000 in
set_option maxHeartbeats 2000000 in
theorem cloneFl_any {W : World} {v : Value} {l : List _} (h : Rd W v l.length (flT.cells l)) (hl : l.length ≤ 100000) :
    Calls Tryz.prog 26 #[v] W (RowRet flT l W) := by
  have h0 := Lib.hid h
  obtain ⟨ao, cap, rfl, h1⟩ := h
  cases ao with
  | none =>
    have e : l = [] := by
      rcases h1 with h | ⟨b, o, h, _⟩
      · exact List.eq_nil_of_length_eq_zero h
      · cases h
    subst e
    clear h1
    have he : ∀ W : World, (binOp .eql 48 (.slice none 0 cap) (.slice none 0 0)).run Tryz.prog W = .ok (.bool true) W := fun _ => rfl
    change Calls Tryz.prog 26 #[.slice none 0 cap] W _
    go_enter Tryz.func26, Tryz.ntmps26
    go_wp2_with fail
    go_ret
    exact ⟨_, rfl, Lib.hid (RT.Own.nil _ _), Lib.hid (Below.refl _ _), Lib.hid (fun g hg => by simp [Value.ownBlock] at hg)⟩
  | some p =>
    clear h1
    have he : ∀ W : World, (binOp .eql 48 (.slice (some p) l.length cap) (.slice none 0 0)).run Tryz.prog W = .ok (.bool false) W := fun _ => rfl
    go_enter Tryz.func26, Tryz.ntmps26
    go_wp2_with (at_builtin; refine flT.wpList_append rfl (.tmp 5) (.tmp 6) rfl _ _ [] l rfl rfl (RT.Own.empty flT W W.heap.size rfl) (h0.out.below ((Below.refl _ _).alloc (Nat.le_refl _) (.cells #[] 9))) (by simp; omega) ?_)
    intro v3 w4 hown hgr hat
    have hb : Below W.heap.size W w4 := ((Below.refl _ W).alloc (Nat.le_refl _) (.cells #[] 9)).grown hgr (by simp) (fun k hk => by simp [Value.ownBlock] at hk; omega)
    have hf : ∀ g, v3.ownBlock = some g → W.heap.size ≤ g := fun k hk => by
      rcases hat k hk with q | q
      · simp [Value.ownBlock] at q; omega
      · omega
    replace hb := Lib.hid hb
    replace hf := Lib.hid hf
    replace hown := Lib.hid hown
    clear hgr hat
    go_wp2_with fail
    go_ret
    exact ⟨_, rfl, hown, hb, hf⟩
set_option maxRecDepth 100000 in
set_option maxHeartbeats 2000000 in
theorem cloneLt_any {W : World} {v : Value} {l : List _} (h : Rd W v l.length (ltT.cells l)) (hl : l.length ≤ 100000) :
    Calls Tryz.prog 57 #[v] W (RowRet ltT l W) := by
  have h0 := Lib.hid h
  obtain ⟨ao, cap, rfl, h1⟩ := h
  cases ao with
  | none =>
    have e : l = [] := by
      rcases h1 with h | ⟨b, o, h, _⟩
      · exact List.eq_nil_of_length_eq_zero h
      · cases h
    subst e
    clear h1
    have he : ∀ W : World, (binOp .eql 31 (.slice none 0 cap) (.slice none 0 0)).run Tryz.prog W = .ok (.bool true) W := fun _ => rfl
    change Calls Tryz.prog 57 #[.slice none 0 cap] W _
    go_enter Tryz.func57, Tryz.ntmps57
    go_wp2_with fail
    go_ret
    exact ⟨_, rfl, Lib.hid (RT.Own.nil _ _), Lib.hid (Below.refl _ _), Lib.hid (fun g hg => by simp [Value.ownBlock] at hg)⟩
  | some p =>
    clear h1
    have he : ∀ W : World, (binOp .eql 31 (.slice (some p) l.length cap) (.slice none 0 0)).run Tryz.prog W = .ok (.bool false) W := fun _ => rfl
    go_enter Tryz.func57, Tryz.ntmps57
    go_wp2_with (at_builtin; refine ltT.wpList_append rfl (.tmp 5) (.tmp 6) rfl _ _ [] l rfl rfl (RT.Own.empty ltT W W.heap.size rfl) (h0.out.below ((Below.refl _ _).alloc (Nat.le_refl _) (.cells #[] 66))) (by simp; omega) ?_)
    intro v3 w4 hown hgr hat
    have hb : Below W.heap.size W w4 := ((Below.refl _ W).alloc (Nat.le_refl _) (.cells #[] 66)).grown hgr (by simp) (fun k hk => by simp [Value.ownBlock] at hk; omega)
    have hf : ∀ g, v3.ownBlock = some g → W.heap.size ≤ g := fun k hk => by
      rcases hat k hk with q | q
      · simp [Value.ownBlock] at q; omega
      · omega
    replace hb := Lib.hid hb
    replace hf := Lib.hid hf
    replace hown := Lib.hid hown
    clear hgr hat
    go_wp2_with fail
    go_ret
    exact ⟨_, rfl, hown, hb, hf⟩
set_option maxRecDepth 100000 in
set_option maxHeartbeats 2000000 in
theorem cloneBx_any {W : World} {v : Value} {l : List _} (h : Rd W v l.length (bxT.cells l)) (hl : l.length ≤ 100000) :
    Calls Tryz.prog 79 #[v] W (RowRet bxT l W) := by
  have h0 := Lib.hid h
  obtain ⟨ao, cap, rfl, h1⟩ := h
  cases ao with
  | none =>
    have e : l = [] := by
      rcases h1 with h | ⟨b, o, h, _⟩
      · exact List.eq_nil_of_length_eq_zero h
      · cases h
    subst e
    clear h1
    have he : ∀ W : World, (binOp .eql 22 (.slice none 0 cap) (.slice none 0 0)).run Tryz.prog W = .ok (.bool true) W := fun _ => rfl
    change Calls Tryz.prog 79 #[.slice none 0 cap] W _
    go_enter Tryz.func79, Tryz.ntmps79
    go_wp2_with fail
    go_ret
    exact ⟨_, rfl, Lib.hid (RT.Own.nil _ _), Lib.hid (Below.refl _ _), Lib.hid (fun g hg => by simp [Value.ownBlock] at hg)⟩
  | some p =>
    clear h1
    have he : ∀ W : World, (binOp .eql 22 (.slice (some p) l.length cap) (.slice none 0 0)).run Tryz.prog W = .ok (.bool false) W := fun _ => rfl
    go_enter Tryz.func79, Tryz.ntmps79
    go_wp2_with (at_builtin; refine bxT.wpList_append rfl (.tmp 5) (.tmp 6) rfl _ _ [] l rfl rfl (RT.Own.empty bxT W W.heap.size rfl) (h0.out.below ((Below.refl _ _).alloc (Nat.le_refl _) (.cells #[] 33))) (by simp; omega) ?_)
    intro v3 w4 hown hgr hat
    have hb : Below W.heap.size W w4 := ((Below.refl _ W).alloc (Nat.le_refl _) (.cells #[] 33)).grown hgr (by simp) (fun k hk => by simp [Value.ownBlock] at hk; omega)
    have hf : ∀ g, v3.ownBlock = some g → W.heap.size ≤ g := fun k hk => by
      rcases hat k hk with q | q
      · simp [Value.ownBlock] at q; omega
      · omega
    replace hb := Lib.hid hb
    replace hf := Lib.hid hf
    replace hown := Lib.hid hown
    clear hgr hat
    go_wp2_with fail
    go_ret
    exact ⟨_, rfl, hown, hb, hf⟩
set_option maxRecDepth 100000 in
set_option maxHeartbeats 2000000 in
theorem cloneSt_any {W : World} {v : Value} {l : List _} (h : Rd W v l.length (stT.cells l)) (hl : l.length ≤ 100000) :
    Calls Tryz.prog 61 #[v] W (RowRet stT l W) := by
  have h0 := Lib.hid h
  obtain ⟨ao, cap, rfl, h1⟩ := h
  cases ao with
  | none =>
    have e : l = [] := by
      rcases h1 with h | ⟨b, o, h, _⟩
      · exact List.eq_nil_of_length_eq_zero h
      · cases h
    subst e
    clear h1
    have he : ∀ W : World, (binOp .eql 25 (.slice none 0 cap) (.slice none 0 0)).run Tryz.prog W = .ok (.bool true) W := fun _ => rfl
    change Calls Tryz.prog 61 #[.slice none 0 cap] W _
    go_enter Tryz.func61, Tryz.ntmps61
    go_wp2_with fail
    go_ret
    exact ⟨_, rfl, Lib.hid (RT.Own.nil _ _), Lib.hid (Below.refl _ _), Lib.hid (fun g hg => by simp [Value.ownBlock] at hg)⟩
  | some p =>
    clear h1
    have he : ∀ W : World, (binOp .eql 25 (.slice (some p) l.length cap) (.slice none 0 0)).run Tryz.prog W = .ok (.bool false) W := fun _ => rfl
    go_enter Tryz.func61, Tryz.ntmps61
    go_wp2_with (at_builtin; refine stT.wpList_append rfl (.tmp 5) (.tmp 6) rfl _ _ [] l rfl rfl (RT.Own.empty stT W W.heap.size rfl) (h0.out.below ((Below.refl _ _).alloc (Nat.le_refl _) (.cells #[] 100))) (by simp; omega) ?_)
    intro v3 w4 hown hgr hat
    have hb : Below W.heap.size W w4 := ((Below.refl _ W).alloc (Nat.le_refl _) (.cells #[] 100)).grown hgr (by simp) (fun k hk => by simp [Value.ownBlock] at hk; omega)
    have hf : ∀ g, v3.ownBlock = some g → W.heap.size ≤ g := fun k hk => by
      rcases hat k hk with q | q
      · simp [Value.ownBlock] at q; omega
      · omega
    replace hb := Lib.hid hb
    replace hf := Lib.hid hf
    replace hown := Lib.hid hown
    clear hgr hat
    go_wp2_with fail
    go_ret
    exact ⟨_, rfl, hown, hb, hf⟩
set_option maxRecDepth 100000 in
set_option maxHeartbeats 2000000 in
theorem cloneHm_any {W : World} {v : Value} {l : List _} (h : Rd W v l.length (hmT.cells l)) (hl : l.length ≤ 100000) :
    Calls Tryz.prog 78 #[v] W (RowRet hmT l W) := by
  have h0 := Lib.hid h
  obtain ⟨ao, cap, rfl, h1⟩ := h
  cases ao with
  | none =>
    have e : l = [] := by
      rcases h1 with h | ⟨b, o, h, _⟩
      · exact List.eq_nil_of_length_eq_zero h
      · cases h
    subst e
    clear h1
    have he : ∀ W : World, (binOp .eql 24 (.slice none 0 cap) (.slice none 0 0)).run Tryz.prog W = .ok (.bool true) W := fun _ => rfl
    change Calls Tryz.prog 78 #[.slice none 0 cap] W _
    go_enter Tryz.func78, Tryz.ntmps78
    go_wp2_with fail
    go_ret
    exact ⟨_, rfl, Lib.hid (RT.Own.nil _ _), Lib.hid (Below.refl _ _), Lib.hid (fun g hg => by simp [Value.ownBlock] at hg)⟩
  | some p =>
    clear h1
    have he : ∀ W : World, (binOp .eql 24 (.slice (some p) l.length cap) (.slice none 0 0)).run Tryz.prog W = .ok (.bool false) W := fun _ => rfl
    go_enter Tryz.func78, Tryz.ntmps78
    go_wp2_with (at_builtin; refine hmT.wpList_append rfl (.tmp 5) (.tmp 6) rfl _ _ [] l rfl rfl (RT.Own.empty hmT W W.heap.size rfl) (h0.out.below ((Below.refl _ _).alloc (Nat.le_refl _) (.cells #[] 108))) (by simp; omega) ?_)
    intro v3 w4 hown hgr hat
    have hb : Below W.heap.size W w4 := ((Below.refl _ W).alloc (Nat.le_refl _) (.cells #[] 108)).grown hgr (by simp) (fun k hk => by simp [Value.ownBlock] at hk; omega)
    have hf : ∀ g, v3.ownBlock = some g → W.heap.size ≤ g := fun k hk => by
      rcases hat k hk with q | q
      · simp [Value.ownBlock] at q; omega
      · omega
    replace hb := Lib.hid hb
    replace hf := Lib.hid hf
    replace hown := Lib.hid hown
    clear hgr hat
    go_wp2_with fail
    go_ret
    exact ⟨_, rfl, hown, hb, hf⟩
end Go.Proofs.YtcnebfmlelcliaaGreat
namespace Go.Proofs.YtcnebfmlelcliaaGreat
open Go.RowKit

/-- slices that read as lists of flags, and that nobody writes -/
def flagsT (S : List (Value × List (List UInt8))) : Th := ⟨fun F W => (∀ k, F k → k < W.heap.size) ∧ ∀ p ∈ S, ∃ ao cap, p.1 = .slice ao p.2.length cap ∧ (p.2 = [] ∨ ∃ b o, ao = some ⟨b, o, none⟩ ∧ F b ∧ p.2.length ≤ cap ∧ ∀ i u, (p.2.map encStr)[i]? = some u → W.cell? ⟨b, o + i, none⟩ = some u),
  fun F W h k hk => h.1 k hk,
  fun F W W' h hk => ⟨fun k hF => (by
    have h1 := hk k hF
    have h2 := h.1 k hF
    rcases Nat.lt_or_ge k W'.heap.size with h3 | h3
    · exact h3
    · rw [Array.getElem?_eq_none h3, Array.getElem?_eq_getElem h2] at h1; cases h1), fun p hp => by
    obtain ⟨ao, cap, hv, h1⟩ := h.2 p hp
    refine ⟨ao, cap, hv, h1.imp id ?_⟩
    rintro ⟨b, o, ha, hF, hc, hcell⟩
    exact ⟨b, o, ha, hF, hc, fun i u hu => (World.cell?_of_block (hk b hF)).trans (hcell i u hu)⟩⟩⟩
variable {W0 W W' : World} {L L2 : List Th}
theorem Zoo.fl {S : List (Value × List (List UInt8))} (h : Zoo W0 W L) (i : Nat) (hi : L[i]? = some (flagsT S)) {v : Value} {l : List (List UInt8)} (hm : (v, l) ∈ S) : FlIn W v l := by
  obtain ⟨F, h1, _⟩ := h.get i _ hi
  obtain ⟨ao, cap, hv, h2⟩ := h1.2 _ hm
  refine ⟨ao, cap, hv, ?_⟩
  rcases h2 with h2 | ⟨b, o, ha, hF, hc, hcell⟩
  · left; dsimp only at h2; rw [h2]; rfl
  · exact .inr ⟨b, o, ha, h1.1 b hF, hc, hcell⟩
theorem flags_nil (h : Zoo W0 W L) : Zoo W0 W (flagsT [] :: L) := h.bare _ ⟨fun _ h => h.elim, fun p hp => by simp at hp⟩
/-- flags in new memory -/
theorem Zoo.addFl {S : List (Value × List (List UInt8))} (h : Zoo W0 W L) (i : Nat) (hi : L[i]? = some (flagsT S)) {v : Value} {l : List (List UInt8)} (hb : Below W.heap.size W W') (hr : FlIn W' v l) (hf : ∀ g, v.ownBlock = some g → W.heap.size ≤ g) : Zoo W0 W' (L.set i (flagsT ((v, l) :: S))) := by
  obtain ⟨F, h1, hlow, hact⟩ := h.act i _ hi
  obtain ⟨ao, cap, hv, hr⟩ := hr
  refine hact _ (fun k => F k ∨ (W.heap.size ≤ k ∧ k < W'.heap.size)) W' ⟨fun k hk => ?_, fun p hp => ?_⟩ ⟨hb.os, hb.tape, hb.output, hb.size, fun k hk _ => hb.block k hk, fun k hk => hk.imp id (fun h => h.1)⟩
  · rcases hk with hk | hk
    · exact Nat.lt_of_lt_of_le (h1.1 k hk) hb.size
    · exact hk.2
  · rcases List.mem_cons.1 hp with rfl | hp
    · refine ⟨ao, cap, hv, ?_⟩
      rcases hr with hr | ⟨b, o, ha, hlt, hc, hcell⟩
      · exact .inl (List.eq_nil_of_length_eq_zero hr)
      · exact .inr ⟨b, o, ha, .inr ⟨hf b (by rw [hv, ha]; rfl), hlt⟩, hc, hcell⟩
    · obtain ⟨ao, cap, hv, h2⟩ := h1.2 p hp
      refine ⟨ao, cap, hv, h2.imp id ?_⟩
      rintro ⟨b, o, ha, hF, hc, hcell⟩
      exact ⟨b, o, ha, .inl hF, hc, fun i u hu => (hb.cell (p := ⟨b, o + i, none⟩) (h1.1 b hF)).trans (hcell i u hu)⟩
/-- things made since W beside those from before -/
theorem Zoo.join (h : Zoo W0 W L) (h2 : Zoo W W' L2) : Zoo W0 W' (L2 ++ L) := by
  obtain ⟨h0, P, h1, hP⟩ := h.below h2.bel
  obtain ⟨g0, Q, g1, hQ⟩ := h2
  obtain ⟨k0, P', k1, kP⟩ := h
  refine ⟨h0, Q ++ P', by rw [List.map_append, g1, k1], ⟨fun x hx => ?_, fun x hx k hk => ?_, ?_⟩⟩
  · rcases List.mem_append.1 hx with hx | hx
    · exact hQ.holds x hx
    · exact x.1.below (kP.holds x hx) g0
  · rcases List.mem_append.1 hx with hx | hx
    · exact Nat.le_trans k0.size (hQ.low x hx k hk)
    · exact kP.low x hx k hk
  · refine List.pairwise_append.2 ⟨hQ.apart, kP.apart, fun x hx y hy k hk1 hk2 => ?_⟩
    have a := hQ.low x hx k hk1
    have b := y.1.lt _ _ (kP.holds y hy) k hk2
    omega
theorem perm_lift {α β : Type} (f : α → β) : ∀ {L L' : List β}, L.Perm L' → ∀ P : List α, P.map f = L → ∃ P', P.Perm P' ∧ P'.map f = L' := fun h => by
  induction h with
  | nil => intro P hP; exact ⟨P, List.Perm.refl _, hP⟩
  | cons x _ ih =>
    intro P hP
    match P, hP with
    | p :: P, hP =>
      simp only [List.map_cons, List.cons.injEq] at hP
      obtain ⟨P', h1, h2⟩ := ih P hP.2
      exact ⟨p :: P', h1.cons p, by rw [List.map_cons, h2, hP.1]⟩
  | swap x y l =>
    intro P hP
    match P, hP with
    | p :: q :: P, hP =>
      simp only [List.map_cons, List.cons.injEq] at hP
      exact ⟨q :: p :: P, List.Perm.swap q p P, by simp only [List.map_cons, hP.1, hP.2.1, hP.2.2]⟩
  | trans _ _ ih1 ih2 =>
    intro P hP
    obtain ⟨P1, h1, h2⟩ := ih1 P hP
    obtain ⟨P2, h3, h4⟩ := ih2 P1 h2
    exact ⟨P2, h1.trans h3, h4⟩
theorem Zoo.perm {L' : List Th} (h : Zoo W0 W L) (hp : L.Perm L') : Zoo W0 W L' := by
  obtain ⟨h0, P, h1, h2⟩ := h
  obtain ⟨P', hP, h3⟩ := perm_lift Prod.fst hp P h1
  exact ⟨h0, P', h3, ⟨fun x hx => h2.holds x (hP.mem_iff.2 hx), fun x hx => h2.low x (hP.mem_iff.2 hx), hP.pairwise h2.apart (fun h k h1 h2 => h k h2 h1)⟩⟩
theorem flags_sub {S S' : List (Value × List (List UInt8))} (h : Zoo W0 W L) (i : Nat) (hi : L[i]? = some (flagsT S)) (hs : ∀ p ∈ S', p ∈ S) : Zoo W0 W (L.set i (flagsT S')) :=
  h.turn i _ _ hi (fun _ h => ⟨h.1, fun p hp => h.2 p (hs p hp)⟩)
/-- two things are one -/
theorem Zoo.merge {a b c : Th} (h : Zoo W0 W (a :: b :: L)) (hm : ∀ F1 F2, a.holds F1 W → b.holds F2 W → c.holds (fun k => F1 k ∨ F2 k) W) : Zoo W0 W (c :: L) := by
  obtain ⟨h0, P, h1, h2⟩ := h
  match P, h1 with
  | x :: y :: P, h1 =>
    simp only [List.map_cons, List.cons.injEq] at h1
    obtain ⟨rfl, rfl, rfl⟩ := h1
    have ha := h2.apart
    simp only [List.pairwise_cons, List.mem_cons] at ha
    refine ⟨h0, (c, fun k => x.2 k ∨ y.2 k) :: P, rfl, ⟨fun z hz => ?_, fun z hz k hk => ?_, ?_⟩⟩
    · rcases List.mem_cons.1 hz with rfl | hz
      · exact hm _ _ (h2.holds x (by simp)) (h2.holds y (by simp))
      · exact h2.holds z (by simp [hz])
    · rcases List.mem_cons.1 hz with rfl | hz
      · rcases hk with hk | hk
        · exact h2.low x (by simp) k hk
        · exact h2.low y (by simp) k hk
      · exact h2.low z (by simp [hz]) k hk
    · refine List.pairwise_cons.2 ⟨fun z hz k hk1 hk2 => ?_, ha.2.2⟩
      rcases hk1 with hk1 | hk1
      · exact ha.1 z (.inr hz) k hk1 hk2
      · exact ha.2.1 z hz k hk1 hk2
theorem flags_merge {S S' : List (Value × List (List UInt8))} (h : Zoo W0 W (flagsT S :: flagsT S' :: L)) : Zoo W0 W (flagsT (S ++ S') :: L) :=
  h.merge (fun F1 F2 h1 h2 => ⟨fun k hk => by
    rcases hk with hk | hk
    · exact h1.1 k hk
    · exact h2.1 k hk, fun p hp => by
    rcases List.mem_append.1 hp with hp | hp
    · obtain ⟨ao, cap, hv, h⟩ := h1.2 p hp
      refine ⟨ao, cap, hv, h.imp id ?_⟩
      rintro ⟨b, o, ha, hF, r⟩
      exact ⟨b, o, ha, .inl hF, r⟩
    · obtain ⟨ao, cap, hv, h⟩ := h2.2 p hp
      refine ⟨ao, cap, hv, h.imp id ?_⟩
      rintro ⟨b, o, ha, hF, r⟩
      exact ⟨b, o, ha, .inr hF, r⟩⟩)
/-- the flags of these letters stand there -/
def HasL (S : List (Value × List (List UInt8))) (rows : List LtV) : Prop := ∀ y ∈ rows, (y.v, y.x.flags) ∈ S
def HasB (S : List (Value × List (List UInt8))) (bs : List BxV) : Prop := ∀ y ∈ bs, HasL S y.rows
theorem Zoo.ltsOk {S : List (Value × List (List UInt8))} {rows : List LtV} (h : Zoo W0 W L) (i : Nat) (hi : L[i]? = some (flagsT S)) (hh : HasL S rows) : LtsOk W rows := fun y hy => h.fl i hi (hh y hy)
end Go.Proofs.YtcnebfmlelcliaaGreat
namespace Go.Proofs.YtcnebfmlelcliaaGreat
set_option linter.unusedSimpArgs false
open Go.RowKit
attribute [local go_sem ↓] Go.wp_at_zero Go.wp_at_succ

def bxAgg (y : BxV) : Value := .agg (bxCells y).toArray
/-- rows of letters that say the same -/
def SameL (l l' : List LtV) : Prop := l.map LtV.x = l'.map LtV.x
theorem SameL.len {l l' : List LtV} (h : SameL l l') : l.length = l'.length := by have := congrArg List.length h; simpa using this
/-- a cell of a block of one's own is written -/
theorem Zoo.setBox {W0 W : World} {L : List Th} {B : Nat} {C : List Value} {t : TypeId} (h : Zoo W0 W L) (i : Nat) (hi : L[i]? = some (boxT B C.toArray t)) (j : Nat) (u : Value) : Zoo W0 (W.setCell ⟨B, j, none⟩ u) (L.set i (boxT B (C.set j u).toArray t)) := by
  obtain ⟨F, ⟨h1, hF⟩, hlow, hact⟩ := h.act i _ hi
  exact hact _ F _ ⟨cells_set h1 j u, hF⟩ ⟨rfl, rfl, rfl, by simp, fun k hk hn => heap_setCell_other W ⟨B, j, none⟩ k _ (fun e => hn ((hF k).2 e)), fun k hk => .inl hk⟩
def CloneBoxRet (W : World) (y : BxV) (e : Ending) (w' : World) : Prop := ∃ (z : BxV) (S : List (Value × List (List UInt8))), e = .returned (bxAgg z) ∧ Hid (z.b = y.b ∧ HasL S z.rows) ∧ Hid (Zoo W w' [ltT.row z.v z.rows, flagsT S])
set_option maxRecDepth 100000 in
set_option maxHeartbeats 8000000 in
theorem cloneBox_any (y : BxV) (W : World) (hin : LtsIn W y.v y.rows) (hl : y.rows.length ≤ 100000) (hfl : ∀ z ∈ y.rows, z.x.flags.length ≤ 100000) :
    Calls Tryz.prog 34 #[bxAgg y] W (CloneBoxRet W y) := by
  obtain ⟨name, val, next, high, rows, a, c⟩ := y
  dsimp only at hl hfl
  have hin0 := Lib.hid (fun (W' : World) (h : Below W.heap.size W W') => hin.below h)
  have hz1 := ((Zoo.nil W).newBox [.string name, .int .u64 val, .int .u64 next, .int .u64 high, .slice a rows.length c].toArray 33).newBox [.string ⟨#[]⟩, .int .u64 0, .int .u64 0, .int .u64 0, .slice none 0 0].toArray 33
  have hs1 : (W.alloc (.cells [.string name, .int .u64 val, .int .u64 next, .int .u64 high, .slice a rows.length c].toArray 33)).heap.size = W.heap.size + 1 := by simp
  rw [hs1] at hz1
  have hc := cloneLt_any (hin0.out _ hz1.bel).1 hl
  replace hz1 := Lib.hid hz1
  replace hc := Lib.hid hc
  replace hfl := Lib.hid hfl
  clear hin hs1
  unfold bxAgg bxCells BxV.v
  dsimp only
  go_enter Tryz.func34, Tryz.ntmps34
  go_wp2_with fail
  refine hc.out.mono ?_
  rintro e w2 ⟨v2, rfl, ho2, hb2, hf2⟩
  have hz2 := hz1.out.newRow hb2.out ho2.out hf2.out
  obtain ⟨a2, c2, hv2⟩ := ho2.out.len
  obtain ⟨hbx, -⟩ := hz2.box 2 rfl
  have c4 : w2.cell? ⟨W.heap.size, 4, none⟩ = some (.slice a rows.length c) := box_cell hbx 4
  have f4 := box_free hbx 4
  have hz3 := hz2.setBox 2 rfl 4 v2
  subst hv2
  replace hz3 := Lib.hid hz3
  clear hc hz1 hz2 ho2 hb2 hf2 hbx
  go_wp2_with fail
  replace hz3 : Hid (Zoo W (w2.setCell ⟨W.heap.size, 4, none⟩ (.slice a2 rows.length c2)) [ltT.row (.slice a2 rows.length c2) rows, boxT (W.heap.size + 1) [.string ⟨#[]⟩, .int .u64 0, .int .u64 0, .int .u64 0, .slice none 0 0].toArray 33, boxT W.heap.size [.string name, .int .u64 val, .int .u64 next, .int .u64 high, .slice a2 rows.length c2].toArray 33]) := hz3
  have hz4 := Lib.hid ((flags_nil hz3.out).perm (List.Perm.swap _ _ _))
  clear hz3 c4 f4
  generalize hB1 : W.heap.size = B1 at hz4 ⊢
  replace hB1 := Lib.hid hB1
  go_loopw [11] (fun v11 wr => ∃ (k : Nat) (done : List LtV) (S : List (Value × List (List UInt8))), v11 = .int .i64 k ∧ k ≤ rows.length ∧ Hid (done.length = k ∧ SameL done (rows.take k) ∧ HasL S done) ∧ Hid (Zoo W wr [ltT.row (.slice a2 rows.length c2) (done ++ rows.drop k), flagsT S, boxT (B1 + 1) [.string ⟨#[]⟩, .int .u64 0, .int .u64 0, .int .u64 0, .slice none 0 0].toArray 33, boxT B1 [.string name, .int .u64 val, .int .u64 next, .int .u64 high, .slice a2 rows.length c2].toArray 33])) (fun v11 _ => rows.length - (intOf v11).toNat)
  case atStart => exact ⟨0, [], [], rfl, Nat.zero_le _, Lib.hid ⟨rfl, rfl, fun y hy => by simp at hy⟩, hz4⟩
  case round =>
    clear hz4
    obtain ⟨k, done, S, rfl, hk, hd, hz⟩ := hrel
    have hlen : (done ++ rows.drop k).length = rows.length := by rw [List.length_append, hd.out.1, List.length_drop]; omega
    by_cases hlt : k < rows.length
    · have hl1 : (k : Int) < (rows.length : Int) := by omega
      have hget : (done ++ rows.drop k)[k]'(by omega) = rows[k] := by
        rw [List.getElem_append_right (by rw [hd.out.1]; exact Nat.le_refl _), List.getElem_drop]
        congr 1
        rw [hd.out.1]; omega
      obtain ⟨x, hx⟩ : ∃ x, rows[k] = x := ⟨_, rfl⟩
      have hxm : x ∈ rows := by rw [← hx]; exact List.getElem_mem hlt
      obtain ⟨hbx, -⟩ := hz.out.box 3 rfl
      have c4 : wr.cell? ⟨B1, 4, none⟩ = some (.slice a2 rows.length c2) := box_cell hbx 4
      obtain ⟨g, cap, hv, hcap, hg, hcells⟩ := (hz.out.own 0 rfl).cells (j := k) (by omega)
      rw [hlen] at hv hcap
      injection hv with e1 e2 e3
      subst e1 e3
      have r1 := hcells 1 (by decide)
      rw [hget, hx] at r1
      replace r1 : wr.cell? ⟨g, k * 5 + 1, none⟩ = some x.v := r1
      have hfr := (hin0.out wr hz.out.bel).2 x hxm
      have hc := Lib.hid (cloneFl_any (hfr.rd.below ((Below.refl _ wr).drew)) (hfl.out x hxm))
      obtain ⟨y, xa, xc⟩ := x
      unfold LtV.v at hc r1
      dsimp only at hc r1
      have hbw : (g : Nat) = g := rfl
      clear hcells hbx hfr
      replace hx := Lib.hid hx
      replace hget := Lib.hid hget
      replace hlen := Lib.hid hlen
      go_wp2_with fail
      refine wp_region_hd (fun w' => w'.cell? ⟨B1, 4, none⟩ = some (.slice (some ⟨g, 0, none⟩) rows.length c2) ∧ w'.cell? ⟨g, k * 5 + 1, none⟩ = some (.slice xa y.flags.length xc)) 10 3 (by kernel_rfl) rfl ⟨by kernel_rfl, by kernel_rfl, by kernel_rfl, by decide⟩ ⟨c4, r1⟩ (fun hok hS0 => ?_)
      refine Hd.take (i := 0) (v := ?tv1) hok rfl (by kernel_rfl) (fun _ _ _ h => h) (Or.inl ⟨by rfl, ?ty1⟩) (by assumption) ?tr1
      case ty1 => (intro w hSw; (try dsimp only at hSw); go_simp; (try with_reducible rfl))
      try simp only [List.getElem_toArray, List.getElem_cons_succ, List.getElem_cons_zero, Act.put, List.setIfInBounds_toArray, List.set_cons_zero, List.set_cons_succ]
      refine Hd.take (i := 1) (v := ?tv2) hok rfl (by kernel_rfl) (fun _ _ _ h => h) (Or.inl ⟨by rfl, ?ty2⟩) (by assumption) ?tr2
      case ty2 => (intro w hSw; (try dsimp only at hSw); go_simp; (try with_reducible rfl))
      try simp only [List.getElem_toArray, List.getElem_cons_succ, List.getElem_cons_zero, Act.put, List.setIfInBounds_toArray, List.set_cons_zero, List.set_cons_succ]
      refine Hd.take (i := 2) (v := ?tv3) hok rfl (by kernel_rfl) (fun _ _ _ h => h) (Or.inl ⟨by rfl, ?ty3⟩) (by assumption) ?tr3
      case ty3 => (intro w hSw; (try dsimp only at hSw); go_simp; (try with_reducible rfl))
      try simp only [List.getElem_toArray, List.getElem_cons_succ, List.getElem_cons_zero, Act.put, List.setIfInBounds_toArray, List.set_cons_zero, List.set_cons_succ]
      refine Hd.take (i := 3) (v := ?tv4) hok rfl (by kernel_rfl) (fun _ _ _ h => h) (Or.inl ⟨by rfl, ?ty4⟩) (by assumption) ?tr4
      case ty4 => (intro w hSw; (try dsimp only at hSw); go_simp; (try with_reducible rfl))
      try simp only [List.getElem_toArray, List.getElem_cons_succ, List.getElem_cons_zero, Act.put, List.setIfInBounds_toArray, List.set_cons_zero, List.set_cons_succ]
      refine Hd.take (i := 4) (v := ?tv5) hok rfl (by kernel_rfl) (fun _ _ _ h => h) (Or.inl ⟨by rfl, ?ty5⟩) (by assumption) ?tr5
      case ty5 => (intro w hSw; (try dsimp only at hSw); go_simp; (try with_reducible rfl))
      try simp only [List.getElem_toArray, List.getElem_cons_succ, List.getElem_cons_zero, Act.put, List.setIfInBounds_toArray, List.set_cons_zero, List.set_cons_succ]
      refine Hd.take (i := 5) (v := ?tv6) hok rfl (by kernel_rfl) (fun _ _ _ h => h) (Or.inl ⟨by rfl, ?ty6⟩) (by assumption) ?tr6
      case ty6 => (intro w hSw; (try dsimp only at hSw); go_simp; (try with_reducible rfl))
      try simp only [List.getElem_toArray, List.getElem_cons_succ, List.getElem_cons_zero, Act.put, List.setIfInBounds_toArray, List.set_cons_zero, List.set_cons_succ]
      refine Hd.take (i := 6) (v := ?tv7) hok rfl (by kernel_rfl) (fun _ _ _ h => h) (Or.inl ⟨by rfl, ?ty7⟩) (by assumption) ?tr7
      case ty7 => (intro w hSw; (try dsimp only at hSw); go_simp; (try with_reducible rfl))
      try simp only [List.getElem_toArray, List.getElem_cons_succ, List.getElem_cons_zero, Act.put, List.setIfInBounds_toArray, List.set_cons_zero, List.set_cons_succ]
      refine Hd.take (i := 7) (v := ?tv8) hok rfl (by kernel_rfl) (fun _ _ _ h => h) (Or.inl ⟨by rfl, ?ty8⟩) (by assumption) ?tr8
      case ty8 => (intro w hSw; (try dsimp only at hSw); go_simp; (try with_reducible rfl))
      try simp only [List.getElem_toArray, List.getElem_cons_succ, List.getElem_cons_zero, Act.put, List.setIfInBounds_toArray, List.set_cons_zero, List.set_cons_succ]
      refine Hd.take (i := 8) (v := ?tv9) hok rfl (by kernel_rfl) (fun _ _ _ h => h) (Or.inl ⟨by rfl, ?ty9⟩) (by assumption) ?tr9
      case ty9 => (intro w hSw; (try dsimp only at hSw); go_simp; (try with_reducible rfl))
      try simp only [List.getElem_toArray, List.getElem_cons_succ, List.getElem_cons_zero, Act.put, List.setIfInBounds_toArray, List.set_cons_zero, List.set_cons_succ]
      refine Hd.one (i := 9) rfl (by kernel_rfl) (fun K hK => ?_)
      go_simp
      refine hc.out.mono ?_
      rintro e w3 ⟨v3, rfl, ho3, hb3, hf3⟩
      dsimp only
      refine hK _ _ ⟨(hb3.out.cell (p := ⟨B1, 4, none⟩) (by have := (World.block_lt_of_cell? _ _ c4); exact this)).trans c4, (hb3.out.cell (p := ⟨g, k * 5 + 1, none⟩) hg).trans r1⟩ ?_
      clear hK K
      try simp only [List.getElem_toArray, List.getElem_cons_succ, List.getElem_cons_zero, Act.put, List.setIfInBounds_toArray, List.set_cons_zero, List.set_cons_succ]
      refine Hd.done (by kernel_rfl) ?_
      simp only [List.drop_succ_cons, List.drop_zero]
      obtain ⟨a3, c3, hv3⟩ := ho3.out.len
      have hz5 := hz.out.drew.addFl 1 rfl hb3.out (FlIn.of_own ho3.out) hf3.out
      obtain ⟨g', cap', hv, -, -, -, hfr, hz6⟩ := hz5.putField 0 rfl k (by rw [hlen.out]; exact hlt) 1 (by decide) v3 ⟨y, a3, c3⟩ (by rw [hget.out, hx.out, hv3]; rfl)
      rw [hlen.out] at hv
      injection hv with e1 e2 e3
      injection e1 with e1
      injection e1 with e1
      subst e1
      have f1 := hfr (k * 5 + 1)
      have r3 := (hb3.out.cell (p := ⟨g, k * 5 + 1, none⟩) hg).trans r1
      have hd2 : Hid ((done ++ [(⟨y, a3, c3⟩ : LtV)]).length = k + 1 ∧ SameL (done ++ [(⟨y, a3, c3⟩ : LtV)]) (rows.take (k + 1)) ∧ HasL ((v3, y.flags) :: S) (done ++ [(⟨y, a3, c3⟩ : LtV)])) := Lib.hid (by
        refine ⟨by rw [List.length_append, hd.out.1]; rfl, ?_, fun z hz => ?_⟩
        · have := hd.out.2.1
          unfold SameL at this ⊢
          rw [List.take_succ_eq_append_getElem hlt, List.map_append, List.map_append, this, hx.out]; rfl
        · rcases List.mem_append.1 hz with hz | hz
          · exact List.mem_cons_of_mem _ (hd.out.2.2 z hz)
          · simp only [List.mem_singleton] at hz
            subst hz
            exact List.mem_cons.2 (.inl (by rw [hv3]; rfl)))
      have hst : (done ++ rows.drop k).set k ⟨y, a3, c3⟩ = (done ++ [(⟨y, a3, c3⟩ : LtV)]) ++ rows.drop (k + 1) := by
        rw [List.set_append_right _ _ (by rw [hd.out.1]; exact Nat.le_refl _), hd.out.1, Nat.sub_self, List.drop_eq_getElem_cons hlt, List.append_assoc]; rfl
      have hz7 : Hid (Zoo W (w3.setCell ⟨g, k * 5 + 1, none⟩ v3) [ltT.row (.slice (some ⟨g, 0, none⟩) rows.length c2) ((done ++ [(⟨y, a3, c3⟩ : LtV)]) ++ rows.drop (k + 1)), flagsT ((v3, y.flags) :: S), boxT (B1 + 1) [.string ⟨#[]⟩, .int .u64 0, .int .u64 0, .int .u64 0, .slice none 0 0].toArray 33, boxT B1 [.string name, .int .u64 val, .int .u64 next, .int .u64 high, .slice (some ⟨g, 0, none⟩) rows.length c2].toArray 33]) := Lib.hid (by rw [← hst]; exact hz6)
      subst hv3
      clear hz hz5 hz6 hfr hst hc ho3 hb3 hf3 hok hS0 c4 r1 hd hx hget hlen
      go_wp2_with fail
      go_roundw
      case rel => exact ⟨k + 1, _, _, by go_num, by omega, hd2, hz7⟩
      case measure => simp [intOf] <;> omega
    · have hl1 : (rows.length : Int) ≤ (k : Int) := by omega
      obtain rfl : k = rows.length := by omega
      obtain ⟨hbx, -⟩ := hz.out.box 3 rfl
      obtain ⟨hby, -⟩ := hz.out.box 2 rfl
      have c0 : wr.cell? ⟨B1, 0, none⟩ = some (.string name) := box_cell hbx 0
      have c1 : wr.cell? ⟨B1, 1, none⟩ = some (.int .u64 val) := box_cell hbx 1
      have c2' : wr.cell? ⟨B1, 2, none⟩ = some (.int .u64 next) := box_cell hbx 2
      have c3 : wr.cell? ⟨B1, 3, none⟩ = some (.int .u64 high) := box_cell hbx 3
      have c4 : wr.cell? ⟨B1, 4, none⟩ = some (.slice a2 rows.length c2) := box_cell hbx 4
      have d0 : wr.cell? ⟨B1 + 1, 0, none⟩ = some (.string ⟨#[]⟩) := box_cell hby 0
      have d1 : wr.cell? ⟨B1 + 1, 1, none⟩ = some (.int .u64 0) := box_cell hby 1
      have d2 : wr.cell? ⟨B1 + 1, 2, none⟩ = some (.int .u64 0) := box_cell hby 2
      have d3 : wr.cell? ⟨B1 + 1, 3, none⟩ = some (.int .u64 0) := box_cell hby 3
      have d4 : wr.cell? ⟨B1 + 1, 4, none⟩ = some (.slice none 0 0) := box_cell hby 4
      have f0 := box_free hby
      have hz5 := ((((hz.out.setBox 2 rfl 0 (.string name)).setBox 2 rfl 1 (.int .u64 val)).setBox 2 rfl 2 (.int .u64 next)).setBox 2 rfl 3 (.int .u64 high)).setBox 2 rfl 4 (.slice a2 rows.length c2)
      obtain ⟨hbz, -⟩ := hz5.box 2 rfl
      rw [List.drop_length, List.append_nil] at hz5
      have hz6 := Lib.hid (hz5.sub (L' := [ltT.row (.slice a2 rows.length c2) done, flagsT S]) (by simp))
      replace hbz := Lib.hid hbz
      clear hz5 hz hbx hby
      go_wp2_with fail
      refine bodyPost_ret (results_cell_row rfl _ _ _ 33 _ (0, 0) _ rfl hbz.out Tryz.underlying33 rfl rfl) rfl ?_
      have hdl : done.length = rows.length := hd.out.1
      have hsame := hd.out.2.1
      rw [List.take_length] at hsame
      refine ⟨⟨name, val, next, high, done, a2, c2⟩, S, by simp [bxAgg, bxCells, BxV.v, hdl], Lib.hid ⟨?_, hd.out.2.2⟩, Lib.hid ?_⟩
      · unfold BxV.b
        dsimp only
        rw [show done.map LtV.x = rows.map LtV.x from hsame]
      · unfold BxV.v
        dsimp only
        rw [hdl]; exact hz6.out
end Go.Proofs.YtcnebfmlelcliaaGreat
