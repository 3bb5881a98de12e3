/- Rows of structs of the call's own, of whatever type: what they hold, how they are read, written and appended to. What mail is made of: letters, mailboxes, seats, homes, a state; how they lie in memory. slices.Clone at letters, mailboxes, seats, homes and texts: walked. Flags among other things; things joined, merged, in another order. mail.cloneBox: walked. mail.clone: walked. IndexFunc with mail's closures: walked. mail.home, opened, seat, at, Find: walked. Rows of which the end is cleared. nothing of its own -/
import Derived.Test.YtpkaoiadjffjiaaGreatB01
import Derived.Test.YtpkaoiadjffjiaaGreatProg
import Derived.Test.YtpkaoiadjffjiaaGreatChecked
import Derived.Sort.EncStr
import Derived.Laws.ResultCell
import Derived.Laws.EntriesVeiled
import Derived.Lib.SliceRun
namespace Go.Proofs.YtpkaoiadjffjiaaGreat
open Go.RowKit

theorem cell_at {W : World} {b : Nat} {C : Array Value} {t : TypeId} (h : W.heap[b]? = some (.cells C t (0, 0))) (j : Nat) : W.cell? ⟨b, j, none⟩ = C[j]? := by simp [World.cell?, h]
theorem free_at {W : World} {b : Nat} {C : Array Value} {t : TypeId} (h : W.heap[b]? = some (.cells C t (0, 0))) (j : Nat) : W.frozen? ⟨b, j, none⟩ = false := by simp [World.frozen?, h]
theorem cells_set {W : World} {g : Nat} {C : List Value} {t : TypeId} (h : W.heap[g]? = some (.cells C.toArray t (0, 0))) (j : Nat) (v : Value) : (W.setCell ⟨g, j, none⟩ v).heap[g]? = some (.cells (C.set j v).toArray t (0, 0)) := by
  simp only [World.setCell, Array.getElem?_modify, h, if_true, Option.map_some]
  rw [← List.setIfInBounds_toArray]
  rfl
/-- a type of structs that rows are made of: its elements' cells -/
structure RT (α : Type) where
  enc : α → List Value
  K : Nat
  t : TypeId
  ts : TypeId
  z : Value
  bytes : Nat
  len : ∀ x, (enc x).length = K
  one : ∀ x, ∀ u ∈ enc x, u.oneCell' = true
  pos : 0 < K
  und : Tryz.prog.underlying ts = some (.slice t)
  info : (Tryz.prog.info? t).map (fun i => (i.zero, i.size, i.bytes)) = some (some z, K, bytes)
  zs : z.cells.size = K
  bb : bytes ≤ 4096
section
variable {α : Type} (R : RT α)
def RT.cells (l : List α) : List Value := l.flatMap R.enc
theorem RT.cells_len : ∀ (l : List α), (R.cells l).length = l.length * R.K
  | [] => by simp [RT.cells]
  | k :: r => by
    have := RT.cells_len r
    unfold RT.cells at this ⊢
    rw [List.flatMap_cons, List.length_append, this, List.length_cons, R.len, Nat.succ_mul]
    omega
theorem RT.cells_app (a b : List α) : R.cells (a ++ b) = R.cells a ++ R.cells b := List.flatMap_append
theorem RT.cells_one (l : List α) : ∀ u ∈ R.cells l, u.oneCell' = true := fun u hu => by
  obtain ⟨x, _, hx⟩ := List.mem_flatMap.1 hu
  exact R.one x u hx
theorem RT.cells_get : ∀ (l : List α) (j : Nat) (hj : j < l.length) (r : Nat), r < R.K → (R.cells l)[j * R.K + r]? = (R.enc l[j])[r]?
  | k :: l, 0, _, r, hr => by
    unfold RT.cells
    rw [List.flatMap_cons, List.getElem?_append_left (by rw [R.len]; omega)]
    simp
  | k :: l, j + 1, hj, r, hr => by
    have := RT.cells_get l j (by simpa using hj) r hr
    unfold RT.cells at this ⊢
    rw [List.flatMap_cons, List.getElem?_append_right (by rw [R.len, Nat.succ_mul]; omega), List.getElem_cons_succ, ← this, R.len]
    congr 1
    rw [Nat.succ_mul]; omega
/-- v is a row of the call's own that holds l -/
def RT.Own (W : World) (v : Value) (l : List α) : Prop := W.ownsRow 0 R.t R.K v l.length (R.cells l)
/-- block g is a row of l, and what lies behind -/
def RT.PR (W : World) (g : Nat) (l : List α) (rest : List Value) : Prop := W.heap[g]? = some (.cells (R.cells l ++ rest).toArray R.t (0, 0))
variable {R}
theorem RT.Own.len {W : World} {v : Value} {l : List α} (h : R.Own W v l) : ∃ a c, v = .slice a l.length c := by
  rcases h.2 with ⟨rfl, hn⟩ | ⟨g, cap, cur, rfl, _⟩
  · exact ⟨none, 0, by rw [hn]⟩
  · exact ⟨_, _, rfl⟩
theorem RT.Own.block {W W' : World} {v : Value} {l : List α} (h : R.Own W v l) (hk : ∀ g, v.ownBlock = some g → W'.heap[g]? = W.heap[g]?) : R.Own W' v l := by
  refine ⟨h.1, ?_⟩
  rcases h.2 with h1 | ⟨g, cap, cur, h1, h2, h3, h4⟩
  · exact .inl h1
  · exact .inr ⟨g, cap, cur, h1, h2, (hk g (by rw [h1]; rfl)).trans h3, h4⟩
theorem RT.Own.lt {W : World} {v : Value} {l : List α} (h : R.Own W v l) {g : Nat} (hg : v.ownBlock = some g) : g < W.heap.size := (World.ownsRow.lt h g hg).2
theorem RT.Own.below {W W' : World} {v : Value} {l : List α} (h : R.Own W v l) (hb : Below W.heap.size W W') : R.Own W' v l := h.block (fun g hg => hb.block g (h.lt hg))
theorem RT.Own.rd {W : World} {v : Value} {l : List α} (h : R.Own W v l) : Rd W v l.length (R.cells l) := Rd.of_own h
theorem RT.Own.nil (R : RT α) (W : World) : R.Own W (.slice none 0 0) [] := World.ownsRow_nil _ _ _ _
theorem RT.Own.empty (R : RT α) (W : World) (n : Nat) (h : W.heap.size = n) : R.Own (W.alloc (.cells #[] R.t)) (.slice (some ⟨n, 0, none⟩) 0 0) [] := by
  subst h
  exact ⟨by simp [RT.cells], .inr ⟨W.heap.size, 0, _, rfl, Nat.zero_le _, heap_alloc_new W _, Nat.le_refl _, by unfold maxLen; omega, by simp, by simp [RT.cells]⟩⟩
theorem RT.Own.one (R : RT α) (W : World) (x : α) (n : Nat) (h : W.heap.size = n) : R.Own (W.alloc (.cells (R.enc x).toArray R.t)) (.slice (some ⟨n, 0, none⟩) 1 1) [x] := by
  subst h
  have hc : R.cells [x] = R.enc x := by simp [RT.cells]
  refine ⟨by rw [hc, R.len]; simp, .inr ⟨W.heap.size, 1, _, rfl, Nat.zero_le _, heap_alloc_new W _, Nat.le_refl _, by unfold maxLen; omega, by simp [R.len], ?_⟩⟩
  rw [hc, List.take_of_length_le (by simp [R.len])]
theorem RT.PR.cell {W : World} {g : Nat} {l : List α} {rest : List Value} (h : R.PR W g l rest) (j r : Nat) (hj : j < l.length) (hr : r < R.K) : W.cell? ⟨g, j * R.K + r, none⟩ = (R.enc l[j])[r]? := by
  rw [cell_at h (j * R.K + r)]
  simp only [List.getElem?_toArray]
  have : j * R.K + r < l.length * R.K := by
    have h1 : (j + 1) * R.K ≤ l.length * R.K := Nat.mul_le_mul_right _ hj
    rw [Nat.succ_mul] at h1; omega
  rw [List.getElem?_append_left (by rw [R.cells_len]; exact this), R.cells_get l j hj r hr]
theorem RT.PR.free {W : World} {g : Nat} {l : List α} {rest : List Value} (h : R.PR W g l rest) (j : Nat) : W.frozen? ⟨g, j, none⟩ = false := free_at h j
theorem RT.PR.put {W : World} {g : Nat} {l : List α} {rest : List Value} (h : R.PR W g l rest) (j r : Nat) (hj : j < l.length) (hr : r < R.K) (u : Value) (x : α) (hx : R.enc x = (R.enc l[j]).set r u) : R.PR (W.setCell ⟨g, j * R.K + r, none⟩ u) g (l.set j x) rest := by
  unfold RT.PR
  rw [cells_set (show W.heap[g]? = _ from h)]
  have hlt : j * R.K + r < l.length * R.K := by
    have h1 : (j + 1) * R.K ≤ l.length * R.K := Nat.mul_le_mul_right _ hj
    rw [Nat.succ_mul] at h1; omega
  have e : (R.cells l ++ rest).set (j * R.K + r) u = R.cells (l.set j x) ++ rest := by
    rw [List.set_append_left _ _ (by rw [R.cells_len]; exact hlt)]
    congr 1
    apply List.ext_getElem?
    intro i
    rw [List.getElem?_set]
    by_cases hi : i < l.length * R.K
    · have hK := R.pos
      obtain ⟨m, q, hq, rfl⟩ : ∃ m q, q < R.K ∧ i = m * R.K + q := ⟨i / R.K, i % R.K, Nat.mod_lt _ hK, by rw [Nat.mul_comm]; exact (Nat.div_add_mod i R.K).symm⟩
      have hm : m < l.length := by
        rcases Nat.lt_or_ge m l.length with h1 | h1
        · exact h1
        · have := Nat.mul_le_mul_right R.K h1; omega
      rw [R.cells_get l m hm q hq, R.cells_get (l.set j x) m (by rw [List.length_set]; exact hm) q hq, R.cells_len]
      by_cases hmj : j = m
      · subst hmj
        rw [List.getElem_set_self, hx, List.getElem?_set]
        by_cases hrq : r = q
        · subst hrq; rw [if_pos rfl, if_pos rfl, if_pos hlt, if_pos (by rw [R.len]; exact hr)]
        · rw [if_neg hrq, if_neg (by omega)]
      · rw [List.getElem_set_ne hmj, if_neg]
        intro e
        rcases Nat.lt_or_gt_of_ne hmj with h1 | h1
        · have := Nat.mul_le_mul_right R.K (show j + 1 ≤ m from h1); rw [Nat.succ_mul] at this; omega
        · have := Nat.mul_le_mul_right R.K (show m + 1 ≤ j from h1); rw [Nat.succ_mul] at this; omega
    · rw [if_neg (by omega), List.getElem?_eq_none (by rw [R.cells_len]; omega), List.getElem?_eq_none (by rw [R.cells_len, List.length_set]; omega)]
  rw [e]
theorem RT.Own.row {W : World} {v : Value} {l : List α} (h : R.Own W v l) (hpos : 0 < l.length) : ∃ g cap rest, v = .slice (some ⟨g, 0, none⟩) l.length cap ∧ l.length ≤ cap ∧ g < W.heap.size ∧ R.PR W g l rest ∧ ∀ W' (l' : List α) n, n ≤ l.length → l'.length = l.length → R.PR W' g l' rest → R.Own W' (.slice (some ⟨g, 0, none⟩) n cap) (l'.take n) := by
  rcases h.2 with ⟨rfl, hn⟩ | ⟨g, cap, cur, rfl, hb, hg, hc, hm, hs, ht⟩
  · omega
  · refine ⟨g, cap, cur.toList.drop (l.length * R.K), rfl, hc, (Array.getElem?_eq_some_iff.1 hg).1, ?_, ?_⟩
    · unfold RT.PR
      rw [← ht, List.take_append_drop]
      exact hg
    · intro W' l' n hn hl hr
      unfold RT.PR at hr
      have e : R.cells l' = R.cells (l'.take n) ++ R.cells (l'.drop n) := by rw [← R.cells_app, List.take_append_drop]
      refine ⟨by rw [R.cells_len], .inr ⟨g, cap, _, by rw [List.length_take, Nat.min_eq_left (by omega)], hb, hr, by rw [List.length_take]; omega, hm, ?_, ?_⟩⟩
      · have h1 := R.cells_len l'
        have h2 : cur.toList.length = cur.size := rfl
        simp only [List.size_toArray, List.length_append, List.length_drop, h1, h2, hl]
        have h3 : cur.size = cap * R.K := hs
        have h4 := Nat.mul_le_mul_right R.K hc
        omega
      · rw [List.toList_toArray, e, List.append_assoc, List.take_left' (R.cells_len _)]
/-- such a row as a thing -/
def RT.row (R : RT α) (v : Value) (l : List α) : Th := ⟨fun F W => R.Own W v l ∧ ∀ k, F k ↔ v.ownBlock = some k, fun _ _ h k hk => h.1.lt ((h.2 k).1 hk), fun _ _ _ h hk => ⟨h.1.block (fun g hg => hk g ((h.2 g).2 hg)), h.2⟩⟩
theorem Zoo.own {W0 W : World} {L : List Th} {v : Value} {l : List α} (h : Zoo W0 W L) (i : Nat) (hi : L[i]? = some (R.row v l)) : R.Own W v l := by
  obtain ⟨F, h1, _⟩ := h.get i _ hi
  exact h1.1
theorem RT.Own.cells {W : World} {v : Value} {l : List α} (h : R.Own W v l) {j : Nat} (hj : j < l.length) : ∃ g cap, v = .slice (some ⟨g, 0, none⟩) l.length cap ∧ l.length ≤ cap ∧ g < W.heap.size ∧ ∀ r, r < R.K → W.cell? ⟨g, j * R.K + r, none⟩ = (R.enc l[j])[r]? := by
  obtain ⟨g, cap, rest, hv, hc, hg, hr, -⟩ := h.row (by omega)
  exact ⟨g, cap, hv, hc, hg, fun r hr1 => hr.cell j r hj hr1⟩
/-- a row in new memory is a thing more -/
theorem Zoo.newRow {W0 W W' : World} {L : List Th} (h : Zoo W0 W L) (hb : Below W.heap.size W W') {v : Value} {l : List α} (ho : R.Own W' v l) (hf : ∀ g, v.ownBlock = some g → W.heap.size ≤ g) : Zoo W0 W' (R.row v l :: L) :=
  h.more hb _ (fun k => v.ownBlock = some k) ⟨ho, fun _ => Iff.rfl⟩ hf
theorem grows_row {W W' : World} {v v' : Value} {F : Foot} (hF : ∀ k, F k ↔ v.ownBlock = some k) (hg : W.grownBy W' v.ownBlock) (hat : ∀ g, v'.ownBlock = some g → v.ownBlock = some g ∨ W.heap.size ≤ g) : Grows F W (fun k => v'.ownBlock = some k) W' :=
  ⟨hg.os, hg.tape, hg.output, hg.size, fun k hk hn => hg.block k hk (fun e => hn ((hF k).2 e.symm)), fun k hk => (hat k hk).imp_left (fun h => (hF k).2 h)⟩
theorem grows_set {W : World} {v : Value} {F : Foot} (hF : ∀ k, F k ↔ v.ownBlock = some k) {g j : Nat} (hg : v.ownBlock = some g) (u : Value) {v' : Value} (hv : ∀ k, v'.ownBlock = some k → v.ownBlock = some k) : Grows F W (fun k => v'.ownBlock = some k) (W.setCell ⟨g, j, none⟩ u) :=
  ⟨rfl, rfl, rfl, by simp, fun k hk hn => heap_setCell_other W ⟨g, j, none⟩ k _ (fun e => hn ((hF k).2 (by rw [e]; exact hg))), fun k hk => .inl ((hF k).2 (hv k hk))⟩
/-- one field of one element of a row is written -/
theorem Zoo.putField {W0 W : World} {L : List Th} {v : Value} {l : List α} (h : Zoo W0 W L) (i : Nat) (hi : L[i]? = some (R.row v l)) (j : Nat) (hj : j < l.length) (r : Nat) (hr : r < R.K) (u : Value) (x : α) (hx : R.enc x = (R.enc l[j]).set r u) :
    ∃ g cap, v = .slice (some ⟨g, 0, none⟩) l.length cap ∧ W0.heap.size ≤ g ∧ g < W.heap.size ∧ (∀ r, r < R.K → W.cell? ⟨g, j * R.K + r, none⟩ = (R.enc l[j])[r]?) ∧ (∀ k, W.frozen? ⟨g, k, none⟩ = false) ∧ Zoo W0 (W.setCell ⟨g, j * R.K + r, none⟩ u) (L.set i (R.row v (l.set j x))) := by
  obtain ⟨F, ⟨ho, hF⟩, hlow, hact⟩ := h.act i _ hi
  obtain ⟨g, cap, rest, rfl, -, hg, hrow, hback⟩ := ho.row (by omega)
  have h2 := hback _ _ l.length (Nat.le_refl _) (by rw [List.length_set]) (hrow.put j r hj hr u x hx)
  rw [List.take_of_length_le (by rw [List.length_set]; exact Nat.le_refl _)] at h2
  exact ⟨g, cap, rfl, hlow g ((hF g).2 rfl), hg, fun r hr1 => hrow.cell j r hj hr1, hrow.free, hact _ _ _ ⟨h2, fun _ => Iff.rfl⟩ (grows_set hF rfl u (fun k hk => hk))⟩
/-- nothing but block g has turned -/
structure KeptB (W : World) (g : Nat) (W' : World) : Prop where
  os : W'.os = W.os
  tape : W'.tape = W.tape
  output : W'.output = W.output
  size : W'.heap.size = W.heap.size
  block : ∀ k, k ≠ g → W'.heap[k]? = W.heap[k]?
theorem KeptB.refl (W : World) (g : Nat) : KeptB W g W := ⟨rfl, rfl, rfl, rfl, fun _ _ => rfl⟩
theorem KeptB.set {W W' : World} {g : Nat} (h : KeptB W g W') (j : Nat) (u : Value) : KeptB W g (W'.setCell ⟨g, j, none⟩ u) :=
  ⟨h.os, h.tape, h.output, by simpa using h.size, fun k hk => (heap_setCell_other W' ⟨g, j, none⟩ k _ hk).trans (h.block k hk)⟩
theorem KeptB.grows {W W' : World} {g : Nat} {v : Value} {F : Foot} (h : KeptB W g W') (hF : ∀ k, F k ↔ v.ownBlock = some k) (hv : v.ownBlock = some g) : Grows F W F W' :=
  ⟨h.os, h.tape, h.output, Nat.le_of_eq h.size.symm, fun k _ hn => h.block k (fun e => hn ((hF k).2 (by rw [e]; exact hv))), fun _ hk => .inl hk⟩
set_option maxHeartbeats 4000000 in
/-- all five fields of one element of a row are written -/
theorem RT.PR.put5 {W : World} {g : Nat} {l : List α} {rest : List Value} (h : R.PR W g l rest) (hK : R.K = 5) (j : Nat) (hj : j < l.length) (x : α) (u0 u1 u2 u3 u4 : Value) (hx : R.enc x = [u0, u1, u2, u3, u4]) :
    R.PR (((((W.setCell ⟨g, j * 5, none⟩ u0).setCell ⟨g, j * 5 + 1, none⟩ u1).setCell ⟨g, j * 5 + 2, none⟩ u2).setCell ⟨g, j * 5 + 3, none⟩ u3).setCell ⟨g, j * 5 + 4, none⟩ u4) g (l.set j x) rest := by
  have hlen : (R.cells l).length = l.length * 5 := by rw [R.cells_len, hK]
  have hl2 : (R.cells (l.set j x)).length = l.length * 5 := by rw [R.cells_len, List.length_set, hK]
  have e : ((((((R.cells l ++ rest).set (j * 5) u0).set (j * 5 + 1) u1).set (j * 5 + 2) u2).set (j * 5 + 3) u3).set (j * 5 + 4) u4) = R.cells (l.set j x) ++ rest := by
    apply List.ext_getElem?
    intro i
    simp only [List.getElem?_set, List.length_set, List.length_append, hlen]
    by_cases hi : i < l.length * 5
    · obtain ⟨m, r, hr, rfl⟩ : ∃ m r, r < 5 ∧ i = m * 5 + r := ⟨i / 5, i % 5, Nat.mod_lt _ (by decide), by omega⟩
      have g1 := R.cells_get l m (by omega) r (by omega)
      have g2 := R.cells_get (l.set j x) m (by rw [List.length_set]; omega) r (by omega)
      rw [hK] at g1 g2
      rw [List.getElem?_append_left (by omega), List.getElem?_append_left (by omega), g1, g2]
      by_cases hm : j = m
      · subst hm
        rw [List.getElem_set_self, hx]
        have h5 : r = 0 ∨ r = 1 ∨ r = 2 ∨ r = 3 ∨ r = 4 := by omega
        rcases h5 with rfl | rfl | rfl | rfl | rfl
        all_goals simp
        all_goals omega
      · rw [List.getElem_set_ne hm]
        rw [if_neg (by omega), if_neg (by omega), if_neg (by omega), if_neg (by omega), if_neg (by omega)]
    · rw [List.getElem?_append_right (by omega), List.getElem?_append_right (by omega), hlen, hl2]
      rw [if_neg (by omega), if_neg (by omega), if_neg (by omega), if_neg (by omega), if_neg (by omega)]
  unfold RT.PR
  rw [← e]
  exact cells_set (cells_set (cells_set (cells_set (cells_set (show W.heap[g]? = _ from h) _ _) _ _) _ _) _ _) _ _
theorem Zoo.put5 {W0 W : World} {L : List Th} {v : Value} {l : List α} (h : Zoo W0 W L) (i : Nat) (hi : L[i]? = some (R.row v l)) (hK : R.K = 5) (j : Nat) (hj : j < l.length) (x : α) (u0 u1 u2 u3 u4 : Value) (hx : R.enc x = [u0, u1, u2, u3, u4]) :
    ∃ g cap, v = .slice (some ⟨g, 0, none⟩) l.length cap ∧ W0.heap.size ≤ g ∧ g < W.heap.size ∧ (∀ r, r < 5 → W.cell? ⟨g, j * 5 + r, none⟩ = (R.enc l[j])[r]?) ∧ (∀ k, W.frozen? ⟨g, k, none⟩ = false) ∧ Zoo W0 (((((W.setCell ⟨g, j * 5, none⟩ u0).setCell ⟨g, j * 5 + 1, none⟩ u1).setCell ⟨g, j * 5 + 2, none⟩ u2).setCell ⟨g, j * 5 + 3, none⟩ u3).setCell ⟨g, j * 5 + 4, none⟩ u4) (L.set i (R.row v (l.set j x))) := by
  obtain ⟨F, ⟨ho, hF⟩, hlow, hact⟩ := h.act i _ hi
  obtain ⟨g, cap, rest, rfl, -, hg, hrow, hback⟩ := ho.row (by omega)
  have h2 := hback _ _ l.length (Nat.le_refl _) (by rw [List.length_set]) (hrow.put5 hK j hj x u0 u1 u2 u3 u4 hx)
  rw [List.take_of_length_le (by rw [List.length_set]; exact Nat.le_refl _)] at h2
  have hk := (((((KeptB.refl W g).set (j * 5) u0).set (j * 5 + 1) u1).set (j * 5 + 2) u2).set (j * 5 + 3) u3).set (j * 5 + 4) u4
  refine ⟨g, cap, rfl, hlow g ((hF g).2 rfl), hg, fun r hr1 => by have := hrow.cell j r hj (by omega); rwa [hK] at this, hrow.free, hact _ F _ ⟨h2, hF⟩ (hk.grows hF rfl)⟩
/-- 'append(v, v2...)' at the list of a plain region -/
theorem RT.wpList_append (R : RT α) {w : World} {ops : Array Oper} {rest : List Oper} {o : Oper} {a : Act} {Q : Exit → Act → World → Prop} (hgd : o.guard = none) (s x : Operand)
    (ho : o.op = .call { callee := .builtin .append, args := #[s, x], argTypes := #[R.ts, R.ts] })
    (v v2 : Value) (l news : List α) (hs : a.eval s = v) (hx : a.eval x = v2) (hown : R.Own w v l) (h2 : Rd w v2 news.length (R.cells news)) (hlen : l.length + news.length ≤ 1000000)
    (h : ∀ v' w', R.Own w' v' (l ++ news) → w.grownBy w' v.ownBlock → (∀ g, v'.ownBlock = some g → v.ownBlock = some g ∨ w.heap.size ≤ g) → wpList Tryz.prog ops Q rest (a.put o.dst v') w') : wpList Tryz.prog ops Q (o :: rest) a w := by
  have hbb := R.bb
  refine wpList_append_rd hgd s x R.ts ho 0 R.t _ R.K R.bytes R.und R.info R.zs R.pos v v2 l.length news.length (R.cells l) (R.cells news) hs hx hown h2 (R.cells_len _) (R.cells_one _) (by unfold maxLen; omega) (by
    have := Nat.mul_le_mul (show l.length + news.length ≤ 1000000 from hlen) hbb
    omega) (Nat.zero_le _) ?_
  intro v' w' ho' hg' hat
  refine h v' w' ?_ hg' hat
  unfold RT.Own
  rw [List.length_append, R.cells_app]
  exact ho'
/-- .. at a step of a region that draws its order -/
theorem RT.step_append (R : RT α) {w : World} {ops : Array Oper} {o : Oper} {a : Act} {K : Act → World → Prop} {Q : Exit → Act → World → Prop} {E : Prop} (hgd : o.guard = none) (s x : Operand)
    (ho : o.op = .call { callee := .builtin .append, args := #[s, x], argTypes := #[R.ts, R.ts] })
    (v v2 : Value) (l news : List α) (hs : a.eval s = v) (hx : a.eval x = v2) (hown : R.Own w v l) (h2 : Rd w v2 news.length (R.cells news)) (hlen : l.length + news.length ≤ 1000000)
    (h : ∀ v' w', R.Own w' v' (l ++ news) → w.grownBy w' v.ownBlock → (∀ g, v'.ownBlock = some g → v.ownBlock = some g ∨ w.heap.size ≤ g) → K (a.put o.dst v') w') :
    if Region.wanted o (yielded ops a.tmps) = true then Oper.wp Tryz.prog o a w K Q else E := by
  have hw : Region.wanted o (yielded ops a.tmps) = true := by simp [Region.wanted, hgd]
  rw [if_pos hw]
  have hbb := R.bb
  refine wp_append_rd s x R.ts ho 0 R.t _ R.K R.bytes R.und R.info R.zs R.pos v v2 l.length news.length (R.cells l) (R.cells news) hs hx hown h2 (R.cells_len _) (R.cells_one _) (by unfold maxLen; omega) (by
    have := Nat.mul_le_mul (show l.length + news.length ≤ 1000000 from hlen) hbb
    omega) (Nat.zero_le _) ?_
  intro v' w' ho' hg' hat
  refine h v' w' ?_ hg' hat
  unfold RT.Own
  rw [List.length_append, R.cells_app]
  exact ho'
/-- a row that is only read: a part of it -/
theorem RT.rd_take (R : RT α) {W : World} {ao : Option Addr} {cap : Nat} {l : List α} (h : Rd W (.slice ao l.length cap) l.length (R.cells l)) (i : Nat) (hi : i ≤ l.length) : Rd W (.slice ao i cap) (l.take i).length (R.cells (l.take i)) := by
  obtain ⟨ao', cap', hv', h1⟩ := h
  injection hv' with e1 e2 e3
  subst e1 e3
  have hli : (l.take i).length = i := by rw [List.length_take]; omega
  rw [hli]
  refine ⟨_, _, rfl, ?_⟩
  rcases h1 with h1 | ⟨b, o, hb, hlt, hle, hc⟩
  · left; omega
  · right
    refine ⟨b, o, hb, hlt, by omega, fun j u hu => hc j u ?_⟩
    have e : R.cells l = R.cells (l.take i) ++ R.cells (l.drop i) := by rw [← R.cells_app, List.take_append_drop]
    rw [e, List.getElem?_append_left]
    · exact hu
    · exact (List.getElem?_eq_some_iff.1 hu).1
theorem RT.rd_drop (R : RT α) {W : World} {g o cap : Nat} {l : List α} (h : Rd W (.slice (some ⟨g, o, none⟩) l.length cap) l.length (R.cells l)) (i cap2 : Nat) (hi : i ≤ l.length) (hc2 : l.length - i ≤ cap2) (n : Nat) (hn : n = l.length - i) : Rd W (.slice (some ⟨g, o + i * R.K, none⟩) n cap2) (l.drop i).length (R.cells (l.drop i)) := by
  subst hn
  obtain ⟨ao', cap', hv', h1⟩ := h
  injection hv' with e1 e2 e3
  subst e1 e3
  have hli : (l.drop i).length = l.length - i := List.length_drop
  rw [hli]
  refine ⟨_, _, rfl, ?_⟩
  rcases h1 with h1 | ⟨b, o', hb, hlt, hle, hc⟩
  · left; omega
  · right
    injection hb with hb
    injection hb with hb1 hb2 _
    subst hb1 hb2
    refine ⟨g, o + i * R.K, rfl, hlt, hc2, fun j u hu => ?_⟩
    have := hc (i * R.K + j) u (by
      have e : R.cells l = R.cells (l.take i) ++ R.cells (l.drop i) := by rw [← R.cells_app, List.take_append_drop]
      have e2 : (R.cells (l.take i)).length = i * R.K := by rw [R.cells_len, List.length_take]; congr 1; omega
      rw [e, List.getElem?_append_right (by omega), e2, Nat.add_sub_cancel_left]
      exact hu)
    rwa [← Nat.add_assoc] at this
/-- an element of a row that is only read -/
theorem RT.rd_cells (R : RT α) {W : World} {v : Value} {l : List α} (h : Rd W v l.length (R.cells l)) {j : Nat} (hj : j < l.length) : ∃ b o cap, v = .slice (some ⟨b, o, none⟩) l.length cap ∧ l.length ≤ cap ∧ b < W.heap.size ∧ ∀ r u, (R.enc l[j])[r]? = some u → W.cell? ⟨b, o + (j * R.K + r), none⟩ = some u := by
  obtain ⟨ao, cap, rfl, h1⟩ := h
  rcases h1 with h1 | ⟨b, o, rfl, hlt, hle, hc⟩
  · omega
  · refine ⟨b, o, cap, rfl, hle, hlt, fun r u hu => hc _ u ?_⟩
    have hr : r < R.K := by have := (List.getElem?_eq_some_iff.1 hu).1; rwa [R.len] at this
    rw [R.cells_get l j hj r hr]; exact hu
end
end Go.Proofs.YtpkaoiadjffjiaaGreat
namespace Go.Proofs.YtpkaoiadjffjiaaGreat
open Go.RowKit

structure Lt where
  uid : Nat
  flags : List (List UInt8)
  mod : Nat
  hash : ByteArray
  size : Nat
structure Bx where
  name : ByteArray
  validity : Nat
  next : Nat
  high : Nat
  letters : List Lt
structure St where
  session : Nat
  last : Nat
  node : Int
  life : Nat
  try_ : Nat
structure Hm where
  node : Int
  life : Nat
  try_ : Nat
structure Ml where
  boxes : List Bx
  nv : Nat
  homes : List Hm
  seats : List St
  ns : Nat
  sweeps : Nat
/-- a letter, and where its flags lie -/
structure LtV where
  x : Lt
  a : Option Addr
  c : Nat
def LtV.v (y : LtV) : Value := .slice y.a y.x.flags.length y.c
/-- a mailbox, and where its letters lie -/
structure BxV where
  name : ByteArray
  validity : Nat
  next : Nat
  high : Nat
  rows : List LtV
  a : Option Addr
  c : Nat
def BxV.v (y : BxV) : Value := .slice y.a y.rows.length y.c
def BxV.b (y : BxV) : Bx := ⟨y.name, y.validity, y.next, y.high, y.rows.map LtV.x⟩
def ltCells (y : LtV) : List Value := [.int .u64 y.x.uid, y.v, .int .u64 y.x.mod, .string y.x.hash, .int .u64 y.x.size]
def bxCells (y : BxV) : List Value := [.string y.name, .int .u64 y.validity, .int .u64 y.next, .int .u64 y.high, y.v]
def stCells (x : St) : List Value := [.int .u64 x.session, .int .u64 x.last, .int .i64 x.node, .int .u64 x.life, .int .u64 x.try_]
def hmCells (x : Hm) : List Value := [.int .i64 x.node, .int .u64 x.life, .int .u64 x.try_]
def ltT : RT LtV where
  enc := ltCells
  K := 5
  t := 45
  ts := 38
  z := .agg #[.int .u64 0, .slice none 0 0, .int .u64 0, .string ⟨#[]⟩, .int .u64 0]
  bytes := 64
  len := fun _ => rfl
  one := fun x u hu => by simp [ltCells, LtV.v] at hu; rcases hu with rfl | rfl | rfl | rfl | rfl <;> rfl
  pos := by decide
  und := Tryz.underlying38
  info := by kernel_rfl
  zs := rfl
  bb := by decide
def bxT : RT BxV where
  enc := bxCells
  K := 5
  t := 40
  ts := 22
  z := .agg #[.string ⟨#[]⟩, .int .u64 0, .int .u64 0, .int .u64 0, .slice none 0 0]
  bytes := 64
  len := fun _ => rfl
  one := fun x u hu => by simp [bxCells, BxV.v] at hu; rcases hu with rfl | rfl | rfl | rfl | rfl <;> rfl
  pos := by decide
  und := Tryz.underlying22
  info := by kernel_rfl
  zs := rfl
  bb := by decide
def stT : RT St where
  enc := stCells
  K := 5
  t := 55
  ts := 25
  z := .agg #[.int .u64 0, .int .u64 0, .int .i64 0, .int .u64 0, .int .u64 0]
  bytes := 40
  len := fun _ => rfl
  one := fun x u hu => by simp [stCells] at hu; rcases hu with rfl | rfl | rfl | rfl | rfl <;> rfl
  pos := by decide
  und := Tryz.underlying25
  info := by kernel_rfl
  zs := rfl
  bb := by decide
def hmT : RT Hm where
  enc := hmCells
  K := 3
  t := 51
  ts := 24
  z := .agg #[.int .i64 0, .int .u64 0, .int .u64 0]
  bytes := 24
  len := fun _ => rfl
  one := fun x u hu => by simp [hmCells] at hu; rcases hu with rfl | rfl | rfl <;> rfl
  pos := by decide
  und := Tryz.underlying24
  info := by kernel_rfl
  zs := rfl
  bb := by decide
/-- a slice that reads as a list of flags -/
def FlIn (W : World) (v : Value) (l : List (List UInt8)) : Prop := Rd W v l.length (l.map encStr)
/-- the letters of a row, their flags -/
def LtsOk (W : World) (l : List LtV) : Prop := ∀ y ∈ l, FlIn W y.v y.x.flags
def LtsIn (W : World) (v : Value) (l : List LtV) : Prop := Rd W v l.length (ltT.cells l) ∧ LtsOk W l
def BxsOk (W : World) (l : List BxV) : Prop := ∀ y ∈ l, LtsIn W y.v y.rows
def BxsIn (W : World) (v : Value) (l : List BxV) : Prop := Rd W v l.length (bxT.cells l) ∧ BxsOk W l
def StsIn (W : World) (v : Value) (l : List St) : Prop := Rd W v l.length (stT.cells l)
def HmsIn (W : World) (v : Value) (l : List Hm) : Prop := Rd W v l.length (hmT.cells l)
theorem LtsOk.below {W W' : World} {l : List LtV} (h : LtsOk W l) (hb : Below W.heap.size W W') : LtsOk W' l := fun y hy => (h y hy).below hb
theorem LtsIn.below {W W' : World} {v : Value} {l : List LtV} (h : LtsIn W v l) (hb : Below W.heap.size W W') : LtsIn W' v l := ⟨h.1.below hb, h.2.below hb⟩
theorem BxsOk.below {W W' : World} {l : List BxV} (h : BxsOk W l) (hb : Below W.heap.size W W') : BxsOk W' l := fun y hy => (h y hy).below hb
theorem BxsIn.below {W W' : World} {v : Value} {l : List BxV} (h : BxsIn W v l) (hb : Below W.heap.size W W') : BxsIn W' v l := ⟨h.1.below hb, h.2.below hb⟩
def mlVal (vb : Value) (nv : Nat) (vh vs : Value) (ns sw : Nat) : Value := .agg #[vb, .int .u64 nv, vh, vs, .int .u64 ns, .int .u64 sw]
/-- v reads as the state m -/
def MlIn (W : World) (v : Value) (m : Ml) : Prop := ∃ (vb vh vs : Value) (bs : List BxV), v = mlVal vb m.nv vh vs m.ns m.sweeps ∧ bs.map BxV.b = m.boxes ∧ BxsIn W vb bs ∧ HmsIn W vh m.homes ∧ StsIn W vs m.seats
theorem MlIn.below {W W' : World} {v : Value} {m : Ml} (h : MlIn W v m) (hb : Below W.heap.size W W') : MlIn W' v m := by
  obtain ⟨vb, vh, vs, bs, h1, h2, h3, h4, h5⟩ := h
  exact ⟨vb, vh, vs, bs, h1, h2, h3.below hb, Rd.below h4 hb, Rd.below h5 hb⟩
end Go.Proofs.YtpkaoiadjffjiaaGreat
namespace Go.Proofs.YtpkaoiadjffjiaaGreat
open Go.RowKit

def flT : RT (List UInt8) where
  enc := fun l => [encStr l]
  K := 1
  t := 9
  ts := 43
  z := .string ⟨#[]⟩
  bytes := 16
  len := fun _ => rfl
  one := fun x u hu => by simp at hu; subst hu; rfl
  pos := by decide
  und := Tryz.underlying43
  info := by kernel_rfl
  zs := rfl
  bb := by decide
theorem flT_cells (l : List (List UInt8)) : flT.cells l = l.map encStr := by
  induction l with
  | nil => rfl
  | cons x r ih =>
    have h : flT.cells (x :: r) = encStr x :: flT.cells r := rfl
    rw [h, ih]; rfl
theorem FlIn.rd {W : World} {v : Value} {l : List (List UInt8)} (h : FlIn W v l) : Rd W v l.length (flT.cells l) := by rw [flT_cells]; exact h
theorem FlIn.of_own {W : World} {v : Value} {l : List (List UInt8)} (h : flT.Own W v l) : FlIn W v l := by have := h.rd; rwa [flT_cells] at this
end Go.Proofs.YtpkaoiadjffjiaaGreat
namespace Go.Proofs.YtpkaoiadjffjiaaGreat
open Go.RowKit

/-- slices that read as lists of flags, and that nobody writes -/
def flagsT (S : List (Value × List (List UInt8))) : Th := ⟨fun F W => (∀ k, F k → k < W.heap.size) ∧ ∀ p ∈ S, ∃ ao cap, p.1 = .slice ao p.2.length cap ∧ (p.2 = [] ∨ ∃ b o, ao = some ⟨b, o, none⟩ ∧ F b ∧ p.2.length ≤ cap ∧ ∀ i u, (p.2.map encStr)[i]? = some u → W.cell? ⟨b, o + i, none⟩ = some u),
  fun F W h k hk => h.1 k hk,
  fun F W W' h hk => ⟨fun k hF => (by
    have h1 := hk k hF
    have h2 := h.1 k hF
    rcases Nat.lt_or_ge k W'.heap.size with h3 | h3
    · exact h3
    · rw [Array.getElem?_eq_none h3, Array.getElem?_eq_getElem h2] at h1; cases h1), fun p hp => by
    obtain ⟨ao, cap, hv, h1⟩ := h.2 p hp
    refine ⟨ao, cap, hv, h1.imp id ?_⟩
    rintro ⟨b, o, ha, hF, hc, hcell⟩
    exact ⟨b, o, ha, hF, hc, fun i u hu => (World.cell?_of_block (hk b hF)).trans (hcell i u hu)⟩⟩⟩
variable {W0 W W' : World} {L L2 : List Th}
theorem Zoo.fl {S : List (Value × List (List UInt8))} (h : Zoo W0 W L) (i : Nat) (hi : L[i]? = some (flagsT S)) {v : Value} {l : List (List UInt8)} (hm : (v, l) ∈ S) : FlIn W v l := by
  obtain ⟨F, h1, _⟩ := h.get i _ hi
  obtain ⟨ao, cap, hv, h2⟩ := h1.2 _ hm
  refine ⟨ao, cap, hv, ?_⟩
  rcases h2 with h2 | ⟨b, o, ha, hF, hc, hcell⟩
  · left; dsimp only at h2; rw [h2]; rfl
  · exact .inr ⟨b, o, ha, h1.1 b hF, hc, hcell⟩
theorem flags_nil (h : Zoo W0 W L) : Zoo W0 W (flagsT [] :: L) := h.bare _ ⟨fun _ h => h.elim, fun p hp => by simp at hp⟩
/-- flags in new memory -/
theorem Zoo.addFl {S : List (Value × List (List UInt8))} (h : Zoo W0 W L) (i : Nat) (hi : L[i]? = some (flagsT S)) {v : Value} {l : List (List UInt8)} (hb : Below W.heap.size W W') (hr : FlIn W' v l) (hf : ∀ g, v.ownBlock = some g → W.heap.size ≤ g) : Zoo W0 W' (L.set i (flagsT ((v, l) :: S))) := by
  obtain ⟨F, h1, hlow, hact⟩ := h.act i _ hi
  obtain ⟨ao, cap, hv, hr⟩ := hr
  refine hact _ (fun k => F k ∨ (W.heap.size ≤ k ∧ k < W'.heap.size)) W' ⟨fun k hk => ?_, fun p hp => ?_⟩ ⟨hb.os, hb.tape, hb.output, hb.size, fun k hk _ => hb.block k hk, fun k hk => hk.imp id (fun h => h.1)⟩
  · rcases hk with hk | hk
    · exact Nat.lt_of_lt_of_le (h1.1 k hk) hb.size
    · exact hk.2
  · rcases List.mem_cons.1 hp with rfl | hp
    · refine ⟨ao, cap, hv, ?_⟩
      rcases hr with hr | ⟨b, o, ha, hlt, hc, hcell⟩
      · exact .inl (List.eq_nil_of_length_eq_zero hr)
      · exact .inr ⟨b, o, ha, .inr ⟨hf b (by rw [hv, ha]; rfl), hlt⟩, hc, hcell⟩
    · obtain ⟨ao, cap, hv, h2⟩ := h1.2 p hp
      refine ⟨ao, cap, hv, h2.imp id ?_⟩
      rintro ⟨b, o, ha, hF, hc, hcell⟩
      exact ⟨b, o, ha, .inl hF, hc, fun i u hu => (hb.cell (p := ⟨b, o + i, none⟩) (h1.1 b hF)).trans (hcell i u hu)⟩
/-- things made since W beside those from before -/
theorem Zoo.join (h : Zoo W0 W L) (h2 : Zoo W W' L2) : Zoo W0 W' (L2 ++ L) := by
  obtain ⟨h0, P, h1, hP⟩ := h.below h2.bel
  obtain ⟨g0, Q, g1, hQ⟩ := h2
  obtain ⟨k0, P', k1, kP⟩ := h
  refine ⟨h0, Q ++ P', by rw [List.map_append, g1, k1], ⟨fun x hx => ?_, fun x hx k hk => ?_, ?_⟩⟩
  · rcases List.mem_append.1 hx with hx | hx
    · exact hQ.holds x hx
    · exact x.1.below (kP.holds x hx) g0
  · rcases List.mem_append.1 hx with hx | hx
    · exact Nat.le_trans k0.size (hQ.low x hx k hk)
    · exact kP.low x hx k hk
  · refine List.pairwise_append.2 ⟨hQ.apart, kP.apart, fun x hx y hy k hk1 hk2 => ?_⟩
    have a := hQ.low x hx k hk1
    have b := y.1.lt _ _ (kP.holds y hy) k hk2
    omega
theorem perm_lift {α β : Type} (f : α → β) : ∀ {L L' : List β}, L.Perm L' → ∀ P : List α, P.map f = L → ∃ P', P.Perm P' ∧ P'.map f = L' := fun h => by
  induction h with
  | nil => intro P hP; exact ⟨P, List.Perm.refl _, hP⟩
  | cons x _ ih =>
    intro P hP
    match P, hP with
    | p :: P, hP =>
      simp only [List.map_cons, List.cons.injEq] at hP
      obtain ⟨P', h1, h2⟩ := ih P hP.2
      exact ⟨p :: P', h1.cons p, by rw [List.map_cons, h2, hP.1]⟩
  | swap x y l =>
    intro P hP
    match P, hP with
    | p :: q :: P, hP =>
      simp only [List.map_cons, List.cons.injEq] at hP
      exact ⟨q :: p :: P, List.Perm.swap q p P, by simp only [List.map_cons, hP.1, hP.2.1, hP.2.2]⟩
  | trans _ _ ih1 ih2 =>
    intro P hP
    obtain ⟨P1, h1, h2⟩ := ih1 P hP
    obtain ⟨P2, h3, h4⟩ := ih2 P1 h2
    exact ⟨P2, h1.trans h3, h4⟩
theorem Zoo.perm {L' : List Th} (h : Zoo W0 W L) (hp : L.Perm L') : Zoo W0 W L' := by
  obtain ⟨h0, P, h1, h2⟩ := h
  obtain ⟨P', hP, h3⟩ := perm_lift Prod.fst hp P h1
  exact ⟨h0, P', h3, ⟨fun x hx => h2.holds x (hP.mem_iff.2 hx), fun x hx => h2.low x (hP.mem_iff.2 hx), hP.pairwise h2.apart (fun h k h1 h2 => h k h2 h1)⟩⟩
theorem flags_sub {S S' : List (Value × List (List UInt8))} (h : Zoo W0 W L) (i : Nat) (hi : L[i]? = some (flagsT S)) (hs : ∀ p ∈ S', p ∈ S) : Zoo W0 W (L.set i (flagsT S')) :=
  h.turn i _ _ hi (fun _ h => ⟨h.1, fun p hp => h.2 p (hs p hp)⟩)
/-- two things are one -/
theorem Zoo.merge {a b c : Th} (h : Zoo W0 W (a :: b :: L)) (hm : ∀ F1 F2, a.holds F1 W → b.holds F2 W → c.holds (fun k => F1 k ∨ F2 k) W) : Zoo W0 W (c :: L) := by
  obtain ⟨h0, P, h1, h2⟩ := h
  match P, h1 with
  | x :: y :: P, h1 =>
    simp only [List.map_cons, List.cons.injEq] at h1
    obtain ⟨rfl, rfl, rfl⟩ := h1
    have ha := h2.apart
    simp only [List.pairwise_cons, List.mem_cons] at ha
    refine ⟨h0, (c, fun k => x.2 k ∨ y.2 k) :: P, rfl, ⟨fun z hz => ?_, fun z hz k hk => ?_, ?_⟩⟩
    · rcases List.mem_cons.1 hz with rfl | hz
      · exact hm _ _ (h2.holds x (by simp)) (h2.holds y (by simp))
      · exact h2.holds z (by simp [hz])
    · rcases List.mem_cons.1 hz with rfl | hz
      · rcases hk with hk | hk
        · exact h2.low x (by simp) k hk
        · exact h2.low y (by simp) k hk
      · exact h2.low z (by simp [hz]) k hk
    · refine List.pairwise_cons.2 ⟨fun z hz k hk1 hk2 => ?_, ha.2.2⟩
      rcases hk1 with hk1 | hk1
      · exact ha.1 z (.inr hz) k hk1 hk2
      · exact ha.2.1 z hz k hk1 hk2
theorem flags_merge {S S' : List (Value × List (List UInt8))} (h : Zoo W0 W (flagsT S :: flagsT S' :: L)) : Zoo W0 W (flagsT (S ++ S') :: L) :=
  h.merge (fun F1 F2 h1 h2 => ⟨fun k hk => by
    rcases hk with hk | hk
    · exact h1.1 k hk
    · exact h2.1 k hk, fun p hp => by
    rcases List.mem_append.1 hp with hp | hp
    · obtain ⟨ao, cap, hv, h⟩ := h1.2 p hp
      refine ⟨ao, cap, hv, h.imp id ?_⟩
      rintro ⟨b, o, ha, hF, r⟩
      exact ⟨b, o, ha, .inl hF, r⟩
    · obtain ⟨ao, cap, hv, h⟩ := h2.2 p hp
      refine ⟨ao, cap, hv, h.imp id ?_⟩
      rintro ⟨b, o, ha, hF, r⟩
      exact ⟨b, o, ha, .inr hF, r⟩⟩)
/-- the flags of these letters stand there -/
def HasL (S : List (Value × List (List UInt8))) (rows : List LtV) : Prop := ∀ y ∈ rows, (y.v, y.x.flags) ∈ S
def HasB (S : List (Value × List (List UInt8))) (bs : List BxV) : Prop := ∀ y ∈ bs, HasL S y.rows
theorem Zoo.ltsOk {S : List (Value × List (List UInt8))} {rows : List LtV} (h : Zoo W0 W L) (i : Nat) (hi : L[i]? = some (flagsT S)) (hh : HasL S rows) : LtsOk W rows := fun y hy => h.fl i hi (hh y hy)
end Go.Proofs.YtpkaoiadjffjiaaGreat
namespace Go.Proofs.YtpkaoiadjffjiaaGreat
set_option linter.unusedSimpArgs false
open Go.RowKit
attribute [local go_sem ↓] Go.wp_at_zero Go.wp_at_succ

def bxAgg (y : BxV) : Value := .agg (bxCells y).toArray
/-- rows of letters that say the same -/
def SameL (l l' : List LtV) : Prop := l.map LtV.x = l'.map LtV.x
theorem SameL.len {l l' : List LtV} (h : SameL l l') : l.length = l'.length := by have := congrArg List.length h; simpa using this
end Go.Proofs.YtpkaoiadjffjiaaGreat
namespace Go.Proofs.YtpkaoiadjffjiaaGreat
set_option linter.unusedSimpArgs false
open Go.RowKit
attribute [local go_sem ↓] Go.wp_at_zero Go.wp_at_succ

structure Sized1 (m : Ml) : Prop where
  boxes : m.boxes.length ≤ 1000
  homes : m.homes.length ≤ 1000
  seats : m.seats.length ≤ 1000
  letters : ∀ b ∈ m.boxes, b.letters.length ≤ 10000
  flags : ∀ b ∈ m.boxes, ∀ x ∈ b.letters, x.flags.length ≤ 10000
end Go.Proofs.YtpkaoiadjffjiaaGreat
namespace Go.Proofs.YtpkaoiadjffjiaaGreat
open Go.RowKit

/-- the place of the first that p says, or -1 -/
def optI (o : Option Nat) : Int := match o with
  | some i => (i : Int)
  | none => -1
def idxI {α : Type} (p : α → Bool) (l : List α) : Int := optI (l.findIdx? p)
theorem beq_cast (a b : Nat) : ((a : Int) == (b : Int)) = (a == b) := by rw [Bool.eq_iff_iff]; simp; try omega
theorem idxI_some {α : Type} {p : α → Bool} {l : List α} {i : Nat} (hi : i < l.length) (hp : p l[i] = true) (hno : ∀ k (hk : k < i), p (l[k]'(by omega)) = false) : idxI p l = (i : Int) := by
  have : l.findIdx? p = some i := List.findIdx?_eq_some_iff_getElem.2 ⟨hi, hp, fun k hk => by simp [hno k hk]⟩
  unfold idxI; rw [this]; rfl
theorem idxI_none {α : Type} {p : α → Bool} {l : List α} (hno : ∀ k (hk : k < l.length), p l[k] = false) : idxI p l = -1 := by
  have : l.findIdx? p = none := List.findIdx?_eq_none_iff.2 (fun x hx => by
    obtain ⟨k, hk, rfl⟩ := List.mem_iff_getElem.1 hx
    exact hno k hk)
  unfold idxI; rw [this]; rfl
theorem homeOne_any (x : Hm) (node : Int) (X : Nat) (W : World) (hX : W.cell? ⟨X, 0, none⟩ = some (.int .i64 node)) :
    Calls Tryz.prog 71 #[.agg #[.int .i64 x.node, .int .u64 x.life, .int .u64 x.try_], .pointer (some ⟨X, 0, none⟩)] W fun e w' => e = .returned (.bool (x.node == node)) ∧ Hid (Below W.heap.size W w') := by
  have hXlt : X < W.heap.size := World.block_lt_of_cell? W ⟨X, 0, none⟩ hX
  have hXs : X ≠ W.heap.size := by omega
  go_enter Tryz.func71, Tryz.ntmps71
  go_wp2_with fail
  all_goals
    go_ret
    exact ⟨ret_bool (by first | rfl | (simp)), Lib.hid ((Below.refl _ W).alloc (Nat.le_refl _) _)⟩
set_option maxRecDepth 100000 in
set_option maxHeartbeats 4000000 in
theorem homeIdx_any (v : Value) (l : List Hm) (node : Int) (X : Nat) (hlen : l.length ≤ 100000) (W : World) (ho : Rd W v l.length (hmT.cells l)) (hX : W.cell? ⟨X, 0, none⟩ = some (.int .i64 node)) :
    Calls Tryz.prog 70 #[v, .func (.func 71) #[] #[.pointer (some ⟨X, 0, none⟩)]] W fun e w' => ∃ r : Int, e = .returned (.int .i64 r) ∧ Hid (r = idxI (fun x => x.node == node) l) ∧ Hid (Below W.heap.size W w') := by
  have hXlt : X < W.heap.size := World.block_lt_of_cell? W ⟨X, 0, none⟩ hX
  have hf := Lib.hid (fun x W2 (h : Below W.heap.size W W2) => homeOne_any x node X W2 ((h.cell (p := ⟨X, 0, none⟩) hXlt).trans hX))
  obtain ⟨ao, cap, hv, -⟩ := id ho
  subst hv
  replace ho := Lib.hid ho
  obtain ⟨p, hp⟩ : ∃ p : Hm → Bool, p = (fun x => x.node == node) := ⟨_, rfl⟩
  rw [← hp]
  have hpx : Hid (∀ x, (x.node == node) = p x) := Lib.hid (fun x => by rw [hp])
  clear hp hX hXlt
  go_enter Tryz.func70, Tryz.ntmps70
  go_wp2_with fail
  go_loopw [8] (fun v8 wr => ∃ i : Nat, v8 = .int .i64 i ∧ i ≤ l.length ∧ Hid (∀ k (_ : k < i) (h2 : k < l.length), p l[k] = false) ∧ Hid (Below W.heap.size W wr)) (fun v8 _ => l.length - (intOf v8).toNat)
  case atStart => exact ⟨0, rfl, Nat.zero_le _, Lib.hid (fun k hk => by omega), Lib.hid (Below.refl _ _)⟩
  case round =>
    obtain ⟨i, rfl, hi, hno, hb⟩ := hrel
    by_cases hlt : i < l.length
    · obtain ⟨b, o, cap', hv, -, hblt, hcells⟩ := hmT.rd_cells (ho.out.below hb.out) hlt
      injection hv with hv1 hv2 hv3
      subst hv1 hv3
      obtain ⟨x, hx⟩ : ∃ x, l[i] = x := ⟨_, rfl⟩
      have r0 : wr.cell? ⟨b, o + i * 3, none⟩ = some (.int .i64 x.node) := by have := hcells 0 _ (by rw [hx]; rfl); rwa [show o + (i * hmT.K + 0) = o + i * 3 from by simp only [hmT]; omega] at this
      have r1 : wr.cell? ⟨b, o + i * 3 + 1, none⟩ = some (.int .u64 x.life) := by have := hcells 1 _ (by rw [hx]; rfl); rwa [show o + (i * hmT.K + 1) = o + i * 3 + 1 from by simp only [hmT]; omega] at this
      have r2 : wr.cell? ⟨b, o + i * 3 + 2, none⟩ = some (.int .u64 x.try_) := by have := hcells 2 _ (by rw [hx]; rfl); rwa [show o + (i * hmT.K + 2) = o + i * 3 + 2 from by simp only [hmT]; omega] at this
      have hcall := hf.out x wr hb.out
      rw [hpx.out x] at hcall
      have hl1 : (i : Int) < (l.length : Int) := by omega
      cases hq : p x with
      | true =>
        have hfound := Lib.hid (idxI_some hlt (by rw [hx]; exact hq) (fun k hk => hno.out k hk (by omega)) : idxI p l = (i : Int))
        rw [hq] at hcall
        replace hcall := Lib.hid hcall
        replace hx := Lib.hid hx
        clear hcells hq hno
        go_wp2_with fail
        refine hcall.out.mono ?_
        rintro e w1 ⟨rfl, hb1⟩
        have hB := Lib.hid (hb.out.trans (hb1.out.mono hb.out.size))
        clear hcall hb1
        go_wp2_with fail
        go_ret
        exact ⟨_, rfl, Lib.hid hfound.out.symm, hB⟩
      | false =>
        have hno2 : Hid (∀ k (_ : k < i + 1) (h2 : k < l.length), p l[k] = false) := Lib.hid (fun k hk h2 => by
          by_cases e : k = i
          · subst e; rw [hx]; exact hq
          · exact hno.out k (by omega) h2)
        rw [hq] at hcall
        replace hcall := Lib.hid hcall
        replace hx := Lib.hid hx
        clear hcells hq hno
        go_wp2_with fail
        refine hcall.out.mono ?_
        rintro e w1 ⟨rfl, hb1⟩
        have hB := Lib.hid (hb.out.trans (hb1.out.mono hb.out.size))
        clear hcall hb1
        go_wp2_with fail
        go_roundw
        case rel => exact ⟨i + 1, by go_num, by omega, hno2, hB⟩
        case measure => simp [intOf] <;> omega
    · have hnone := Lib.hid (idxI_none (fun k hk => hno.out k (by omega) hk) : idxI p l = -1)
      have hl1 : (l.length : Int) ≤ (i : Int) := by omega
      go_wp2_with fail
      go_ret
      exact ⟨_, rfl, Lib.hid hnone.out.symm, hb⟩
theorem openedOne_any (x : St) (node : Int) (try_ : Nat) (X : Nat) (Y : Nat) (W : World) (hX : W.cell? ⟨X, 0, none⟩ = some (.int .i64 node)) (hY : W.cell? ⟨Y, 0, none⟩ = some (.int .u64 try_)) :
    Calls Tryz.prog 73 #[.agg #[.int .u64 x.session, .int .u64 x.last, .int .i64 x.node, .int .u64 x.life, .int .u64 x.try_], .pointer (some ⟨X, 0, none⟩), .pointer (some ⟨Y, 0, none⟩)] W fun e w' => e = .returned (.bool (x.node == node && x.try_ == try_)) ∧ Hid (Below W.heap.size W w') := by
  have hXlt : X < W.heap.size := World.block_lt_of_cell? W ⟨X, 0, none⟩ hX
  have hXs : X ≠ W.heap.size := by omega
  have hYlt : Y < W.heap.size := World.block_lt_of_cell? W ⟨Y, 0, none⟩ hY
  have hYs : Y ≠ W.heap.size := by omega
  go_enter Tryz.func73, Tryz.ntmps73
  go_wp2_with fail
  all_goals
    go_ret
    exact ⟨ret_bool (by first | rfl | (simp_all [beq_cast])), Lib.hid ((Below.refl _ W).alloc (Nat.le_refl _) _)⟩
set_option maxRecDepth 100000 in
set_option maxHeartbeats 4000000 in
theorem openedIdx_any (v : Value) (l : List St) (node : Int) (try_ : Nat) (X : Nat) (Y : Nat) (hlen : l.length ≤ 100000) (W : World) (ho : Rd W v l.length (stT.cells l)) (hX : W.cell? ⟨X, 0, none⟩ = some (.int .i64 node)) (hY : W.cell? ⟨Y, 0, none⟩ = some (.int .u64 try_)) :
    Calls Tryz.prog 72 #[v, .func (.func 73) #[] #[.pointer (some ⟨X, 0, none⟩), .pointer (some ⟨Y, 0, none⟩)]] W fun e w' => ∃ r : Int, e = .returned (.int .i64 r) ∧ Hid (r = idxI (fun x => x.node == node && x.try_ == try_) l) ∧ Hid (Below W.heap.size W w') := by
  have hXlt : X < W.heap.size := World.block_lt_of_cell? W ⟨X, 0, none⟩ hX
  have hYlt : Y < W.heap.size := World.block_lt_of_cell? W ⟨Y, 0, none⟩ hY
  have hf := Lib.hid (fun x W2 (h : Below W.heap.size W W2) => openedOne_any x node try_ X Y W2 ((h.cell (p := ⟨X, 0, none⟩) hXlt).trans hX) ((h.cell (p := ⟨Y, 0, none⟩) hYlt).trans hY))
  obtain ⟨ao, cap, hv, -⟩ := id ho
  subst hv
  replace ho := Lib.hid ho
  obtain ⟨p, hp⟩ : ∃ p : St → Bool, p = (fun x => x.node == node && x.try_ == try_) := ⟨_, rfl⟩
  rw [← hp]
  have hpx : Hid (∀ x, (x.node == node && x.try_ == try_) = p x) := Lib.hid (fun x => by rw [hp])
  clear hp hX hXlt hY hYlt
  go_enter Tryz.func72, Tryz.ntmps72
  go_wp2_with fail
  go_loopw [8] (fun v8 wr => ∃ i : Nat, v8 = .int .i64 i ∧ i ≤ l.length ∧ Hid (∀ k (_ : k < i) (h2 : k < l.length), p l[k] = false) ∧ Hid (Below W.heap.size W wr)) (fun v8 _ => l.length - (intOf v8).toNat)
  case atStart => exact ⟨0, rfl, Nat.zero_le _, Lib.hid (fun k hk => by omega), Lib.hid (Below.refl _ _)⟩
  case round =>
    obtain ⟨i, rfl, hi, hno, hb⟩ := hrel
    by_cases hlt : i < l.length
    · obtain ⟨b, o, cap', hv, -, hblt, hcells⟩ := stT.rd_cells (ho.out.below hb.out) hlt
      injection hv with hv1 hv2 hv3
      subst hv1 hv3
      obtain ⟨x, hx⟩ : ∃ x, l[i] = x := ⟨_, rfl⟩
      have r0 : wr.cell? ⟨b, o + i * 5, none⟩ = some (.int .u64 x.session) := by have := hcells 0 _ (by rw [hx]; rfl); rwa [show o + (i * stT.K + 0) = o + i * 5 from by simp only [stT]; omega] at this
      have r1 : wr.cell? ⟨b, o + i * 5 + 1, none⟩ = some (.int .u64 x.last) := by have := hcells 1 _ (by rw [hx]; rfl); rwa [show o + (i * stT.K + 1) = o + i * 5 + 1 from by simp only [stT]; omega] at this
      have r2 : wr.cell? ⟨b, o + i * 5 + 2, none⟩ = some (.int .i64 x.node) := by have := hcells 2 _ (by rw [hx]; rfl); rwa [show o + (i * stT.K + 2) = o + i * 5 + 2 from by simp only [stT]; omega] at this
      have r3 : wr.cell? ⟨b, o + i * 5 + 3, none⟩ = some (.int .u64 x.life) := by have := hcells 3 _ (by rw [hx]; rfl); rwa [show o + (i * stT.K + 3) = o + i * 5 + 3 from by simp only [stT]; omega] at this
      have r4 : wr.cell? ⟨b, o + i * 5 + 4, none⟩ = some (.int .u64 x.try_) := by have := hcells 4 _ (by rw [hx]; rfl); rwa [show o + (i * stT.K + 4) = o + i * 5 + 4 from by simp only [stT]; omega] at this
      have hcall := hf.out x wr hb.out
      rw [hpx.out x] at hcall
      have hl1 : (i : Int) < (l.length : Int) := by omega
      cases hq : p x with
      | true =>
        have hfound := Lib.hid (idxI_some hlt (by rw [hx]; exact hq) (fun k hk => hno.out k hk (by omega)) : idxI p l = (i : Int))
        rw [hq] at hcall
        replace hcall := Lib.hid hcall
        replace hx := Lib.hid hx
        clear hcells hq hno
        go_wp2_with fail
        refine hcall.out.mono ?_
        rintro e w1 ⟨rfl, hb1⟩
        have hB := Lib.hid (hb.out.trans (hb1.out.mono hb.out.size))
        clear hcall hb1
        go_wp2_with fail
        go_ret
        exact ⟨_, rfl, Lib.hid hfound.out.symm, hB⟩
      | false =>
        have hno2 : Hid (∀ k (_ : k < i + 1) (h2 : k < l.length), p l[k] = false) := Lib.hid (fun k hk h2 => by
          by_cases e : k = i
          · subst e; rw [hx]; exact hq
          · exact hno.out k (by omega) h2)
        rw [hq] at hcall
        replace hcall := Lib.hid hcall
        replace hx := Lib.hid hx
        clear hcells hq hno
        go_wp2_with fail
        refine hcall.out.mono ?_
        rintro e w1 ⟨rfl, hb1⟩
        have hB := Lib.hid (hb.out.trans (hb1.out.mono hb.out.size))
        clear hcall hb1
        go_wp2_with fail
        go_roundw
        case rel => exact ⟨i + 1, by go_num, by omega, hno2, hB⟩
        case measure => simp [intOf] <;> omega
    · have hnone := Lib.hid (idxI_none (fun k hk => hno.out k (by omega) hk) : idxI p l = -1)
      have hl1 : (l.length : Int) ≤ (i : Int) := by omega
      go_wp2_with fail
      go_ret
      exact ⟨_, rfl, Lib.hid hnone.out.symm, hb⟩
end Go.Proofs.YtpkaoiadjffjiaaGreat
namespace Go.Proofs.YtpkaoiadjffjiaaGreat
set_option linter.unusedSimpArgs false
open Go.RowKit

theorem cell_one (w : World) (v : Value) (t : TypeId) (n : Nat) (h : w.heap.size = n) : (w.alloc (.cells #[v] t)).cell? ⟨n, 0, none⟩ = some v := by subst h; simp
theorem cell_old {w : World} (o : Obj) {a : Addr} {v : Value} (h : w.cell? a = some v) : (w.alloc o).cell? a = some v := by
  rw [World.cell?_alloc_lt _ _ _ (World.block_lt_of_cell? w a h)]; exact h
def IntBelow (W : World) (r : Int) (e : Ending) (w' : World) : Prop := e = .returned (.int .i64 r) ∧ Hid (Below W.heap.size W w')
set_option maxRecDepth 100000 in
set_option maxHeartbeats 4000000 in
theorem home_any {W : World} (ab ah as_ : Option Addr) (nb cb ch ns cs nv nse sw : Nat) (hs : List Hm) (node : Int) (hh : HmsIn W (.slice ah hs.length ch) hs) (hl : hs.length ≤ 100000) :
    Calls Tryz.prog 58 #[mlVal (.slice ab nb cb) nv (.slice ah hs.length ch) (.slice as_ ns cs) nse sw, .int .i64 node] W (IntBelow W (idxI (fun x => x.node == node) hs)) := by
  have hb : Below W.heap.size W ((W.alloc (.cells #[.slice ab nb cb, .int .u64 nv, .slice ah hs.length ch, .slice as_ ns cs, .int .u64 nse, .int .u64 sw] 27)).alloc (.cells #[.int .i64 node] 3)) := ((Below.refl _ W).alloc (Nat.le_refl _) _).alloc (by simp) _
  have hc := Lib.hid (homeIdx_any (.slice ah hs.length ch) hs node (W.heap.size + 1) hl _ (Rd.below hh hb) (cell_one _ _ _ _ (by simp)))
  replace hb := Lib.hid hb
  unfold mlVal
  go_enter Tryz.func58, Tryz.ntmps58
  go_wp2_with fail
  refine hc.out.mono ?_
  rintro e w2 ⟨r, rfl, hr, hb2⟩
  have hB := Lib.hid (hb.out.trans (hb2.out.mono hb.out.size))
  clear hc hb2
  go_wp2_with fail
  go_ret
  exact ⟨ret_int hr.out, hB⟩
set_option maxRecDepth 100000 in
set_option maxHeartbeats 4000000 in
theorem opened_any {W : World} (ab ah as_ : Option Addr) (nb cb nh ch cs nv nse sw : Nat) (ss : List St) (node : Int) (try_ : Nat) (hh : StsIn W (.slice as_ ss.length cs) ss) (hl : ss.length ≤ 100000) :
    Calls Tryz.prog 59 #[mlVal (.slice ab nb cb) nv (.slice ah nh ch) (.slice as_ ss.length cs) nse sw, .int .i64 node, .int .u64 try_] W (IntBelow W (idxI (fun x => x.node == node && x.try_ == try_) ss)) := by
  have hb : Below W.heap.size W (((W.alloc (.cells #[.slice ab nb cb, .int .u64 nv, .slice ah nh ch, .slice as_ ss.length cs, .int .u64 nse, .int .u64 sw] 27)).alloc (.cells #[.int .i64 node] 3)).alloc (.cells #[.int .u64 try_] 23)) := (((Below.refl _ W).alloc (Nat.le_refl _) _).alloc (by simp) _).alloc (by simp; omega) _
  have hc := Lib.hid (openedIdx_any (.slice as_ ss.length cs) ss node try_ (W.heap.size + 1) (W.heap.size + 1 + 1) hl _ (Rd.below hh hb) (cell_old _ (cell_one _ _ _ _ (by simp))) (cell_one _ _ _ _ (by simp)))
  replace hb := Lib.hid hb
  unfold mlVal
  go_enter Tryz.func59, Tryz.ntmps59
  go_wp2_with fail
  refine hc.out.mono ?_
  rintro e w2 ⟨r, rfl, hr, hb2⟩
  have hB := Lib.hid (hb.out.trans (hb2.out.mono hb.out.size))
  clear hc hb2
  go_wp2_with fail
  go_ret
  exact ⟨ret_int hr.out, hB⟩
def atB (name : ByteArray) (bs : List BxV) : Int := idxI (fun x => x.name.toList == name.toList) bs
end Go.Proofs.YtpkaoiadjffjiaaGreat
namespace Go.Proofs.YtpkaoiadjffjiaaGreat
open Go.RowKit

theorem heap_setCells {g : Nat} {t : TypeId} : ∀ (vs : List Value) (o : Nat) (C : List Value) (W : World), W.heap[g]? = some (.cells C.toArray t (0, 0)) → o + vs.length ≤ C.length → (W.setCells g o vs).heap[g]? = some (.cells (C.take o ++ vs ++ C.drop (o + vs.length)).toArray t (0, 0))
  | [], o, C, W, h, hl => by simpa [World.setCells] using h
  | v :: r, o, C, W, h, hl => by
    simp only [List.length_cons] at hl
    rw [World.setCells, heap_setCells r (o + 1) (C.set o v) _ (cells_set h o v) (by rw [List.length_set]; omega)]
    have e : (C.set o v).take (o + 1) ++ r ++ (C.set o v).drop (o + 1 + r.length) = C.take o ++ (v :: r) ++ C.drop (o + (v :: r).length) := by
      rw [List.drop_set_of_lt (by omega), List.take_set]
      have e1 : (C.take (o + 1)).set o v = C.take o ++ [v] := by
        rw [List.take_succ_eq_append_getElem (by omega), List.set_append_right _ _ (by rw [List.length_take]; omega), List.length_take, show o - min o C.length = 0 from by omega]; rfl
      rw [e1, List.append_assoc, List.append_assoc, List.append_assoc, List.length_cons, show o + 1 + r.length = o + (r.length + 1) from by omega]; rfl
    rw [e]
theorem KeptB.sets {W : World} {g : Nat} : ∀ (vs : List Value) (o : Nat) {W' : World}, KeptB W g W' → KeptB W g (W'.setCells g o vs)
  | [], _, _, h => h
  | v :: r, o, _, h => KeptB.sets r (o + 1) (h.set o v)
section
variable {α : Type} {R : RT α}
theorem RT.zeroV (R : RT α) (W : World) : (zeroValue R.t).run Tryz.prog W = .ok R.z W := by
  obtain ⟨i, hi, hz, -, -⟩ := info_parts R.info
  simp [zeroValue, typeInfo, hi, hz]
theorem RT.zeroCells (R : RT α) (zr : α) (hz : R.enc zr = R.z.cells.toList) (n : Nat) : (Builtin.zeroCells R.z.cells n).toList = R.cells (List.replicate n zr) := by
  have hK := R.pos
  have hzs := R.zs
  have hl : (Builtin.zeroCells R.z.cells n).toList.length = n * R.K := by simp [Builtin.zeroCells, hzs]
  apply List.ext_getElem?
  intro i
  by_cases hi : i < n * R.K
  · obtain ⟨m, q, hq, rfl⟩ : ∃ m q, q < R.K ∧ i = m * R.K + q := ⟨i / R.K, i % R.K, Nat.mod_lt _ hK, by rw [Nat.mul_comm]; exact (Nat.div_add_mod i R.K).symm⟩
    have hm : m < n := by
      rcases Nat.lt_or_ge m n with h1 | h1
      · exact h1
      · have := Nat.mul_le_mul_right R.K h1; omega
    rw [R.cells_get _ m (by rw [List.length_replicate]; exact hm) q hq, List.getElem_replicate, hz]
    simp only [Builtin.zeroCells, Array.toList_map, Array.toList_range, List.getElem?_map, hzs]
    rw [List.getElem?_range hi, Option.map_some, show (m * R.K + q) % R.K = q from by rw [Nat.mul_comm, Nat.mul_add_mod, Nat.mod_eq_of_lt hq], getElem!_pos _ _ (by rw [hzs]; exact hq), Array.getElem?_toList, Array.getElem?_eq_getElem (by rw [hzs]; exact hq)]
  · rw [List.getElem?_eq_none (by omega), List.getElem?_eq_none (by rw [R.cells_len, List.length_replicate]; omega)]
/-- 'clear(s[i:])' of a row -/
theorem RT.PR.clear {W : World} {g : Nat} {l : List α} {rest : List Value} (h : R.PR W g l rest) (zr : α) (hz : R.enc zr = R.z.cells.toList) (i n : Nat) (hn : 0 < n) (hi : i + n = l.length) (c : Nat) (ty : TypeId) :
    (Builtin.clear_ #[R.ts] ty #[.slice (some ⟨g, i * R.K, none⟩) n c]).run Tryz.prog W = .ok (.tuple #[]) (W.setCells g (i * R.K) (R.cells (List.replicate n zr))) := by
  have hK := R.pos
  have hln : (R.cells (List.replicate n zr)).length = n * R.K := by rw [R.cells_len, List.length_replicate]
  have hll : i * R.K + n * R.K = l.length * R.K := by rw [← hi, Nat.add_mul]
  have hst := run_storeCells_cells (P := Tryz.prog) g (i * R.K) (R.cells (List.replicate n zr)) 0 W (fun j hj => by
    rw [hln] at hj
    rw [Nat.add_zero, cell_at h]
    rw [List.getElem?_toArray, List.getElem?_append_left (by rw [R.cells_len]; omega)]
    rw [List.getElem?_eq_getElem (by rw [R.cells_len]; omega)]; rfl) (fun j _ => h.free _) (R.cells_one _)
  simp only [Nat.add_zero] at hst
  obtain ⟨m, rfl⟩ : ∃ m, n = m + 1 := ⟨n - 1, by omega⟩
  simp [Builtin.clear_, run_underlying R.und, R.zeroV, R.zeroCells zr hz, hst]
theorem RT.PR.cleared {W : World} {g : Nat} {l : List α} {rest : List Value} (h : R.PR W g l rest) (zr : α) (i n : Nat) (hi : i + n = l.length) : R.PR (W.setCells g (i * R.K) (R.cells (List.replicate n zr))) g (l.take i ++ List.replicate n zr) rest := by
  have hll : i * R.K + n * R.K = l.length * R.K := by rw [← hi, Nat.add_mul]
  have hln : (R.cells (List.replicate n zr)).length = n * R.K := by rw [R.cells_len, List.length_replicate]
  unfold RT.PR
  rw [heap_setCells _ _ _ _ h (by rw [hln, List.length_append, R.cells_len]; omega), hln, hll]
  have e1 : R.cells l = R.cells (l.take i) ++ R.cells (l.drop i) := by rw [← R.cells_app, List.take_append_drop]
  have e2 : (R.cells (l.take i)).length = i * R.K := by rw [R.cells_len, List.length_take]; congr 1; omega
  have e3 : (R.cells l ++ rest).take (i * R.K) = R.cells (l.take i) := by
    rw [e1, List.append_assoc, List.take_append_of_le_length (by rw [e2]; exact Nat.le_refl _), List.take_of_length_le (by rw [e2]; exact Nat.le_refl _)]
  have e4 : (R.cells l ++ rest).drop (l.length * R.K) = rest := by
    rw [← R.cells_len, List.drop_left]
  rw [e3, e4, R.cells_app]
/-- the end of a row is cleared and cut off -/
theorem Zoo.clear {W0 W : World} {L : List Th} {v : Value} {l : List α} (h : Zoo W0 W L) (i : Nat) (hi : L[i]? = some (R.row v l)) (zr : α) (hz : R.enc zr = R.z.cells.toList) (k n : Nat) (hn : 0 < n) (hk : k + n = l.length) :
    ∃ g cap, v = .slice (some ⟨g, 0, none⟩) l.length cap ∧ l.length ≤ cap ∧ (∀ c ty, (Builtin.clear_ #[R.ts] ty #[.slice (some ⟨g, k * R.K, none⟩) n c]).run Tryz.prog W = .ok (.tuple #[]) (W.setCells g (k * R.K) (R.cells (List.replicate n zr)))) ∧ Zoo W0 (W.setCells g (k * R.K) (R.cells (List.replicate n zr))) (L.set i (R.row (.slice (some ⟨g, 0, none⟩) k cap) (l.take k))) := by
  obtain ⟨F, ⟨ho, hF⟩, hlow, hact⟩ := h.act i _ hi
  obtain ⟨g, cap, rest, rfl, hc, hg, hrow, hback⟩ := ho.row (by omega)
  have h2 := hback _ _ k (by omega) (by rw [List.length_append, List.length_take, List.length_replicate]; omega) (hrow.cleared zr k n hk)
  rw [List.take_append_of_le_length (by rw [List.length_take]; omega), List.take_take, Nat.min_self] at h2
  have hkb : KeptB W g (W.setCells g (k * R.K) (R.cells (List.replicate n zr))) := KeptB.sets _ _ (KeptB.refl W g)
  exact ⟨g, cap, rfl, hc, fun c ty => hrow.clear zr hz k n hn hk c ty, hact _ F _ ⟨h2, hF⟩ (hkb.grows hF rfl)⟩
end
/-- what a round of DeleteFunc has kept -/
structure Kept {α : Type} (p : α → Bool) (l cur : List α) (i j : Nat) : Prop where
  len : cur.length = l.length
  lt : i < j
  le : j ≤ l.length
  done : cur.take i = (l.take j).filter (fun x => !p x)
  todo : cur.drop j = l.drop j
theorem Kept.get {α : Type} {p : α → Bool} {l cur : List α} {i j : Nat} (h : Kept p l cur i j) (hj : j < l.length) : cur[j]'(by have := h.len; omega) = l[j] := by
  have := h.todo
  have e1 := List.drop_eq_getElem_cons (l := cur) (i := j) (by have := h.len; omega)
  have e2 := List.drop_eq_getElem_cons (l := l) (i := j) hj
  rw [e1, e2] at this
  exact (List.cons.inj this).1
theorem Kept.skip {α : Type} {p : α → Bool} {l cur : List α} {i j : Nat} (h : Kept p l cur i j) (hj : j < l.length) (hp : p l[j] = true) : Kept p l cur i (j + 1) where
  len := h.len
  lt := Nat.lt_succ_of_lt h.lt
  le := hj
  done := by rw [h.done, List.take_succ_eq_append_getElem hj, List.filter_append]; simp [hp]
  todo := by rw [← List.drop_drop, ← List.drop_drop, h.todo]
theorem Kept.all {α : Type} {p : α → Bool} {l cur : List α} {i : Nat} (h : Kept p l cur i l.length) : cur.take i = l.filter (fun x => !p x) := by rw [h.done, List.take_length]
end Go.Proofs.YtpkaoiadjffjiaaGreat

