/- Things in memory, none in another's way: each has blocks of its own; what turns one keeps the others. -/
import Derived.Test.YtjopbglimjhefaaRd
namespace Go.Proofs.Ytjopbglimjhefaa
open Go.RowKit

abbrev Foot := Nat → Prop
/-- what lies in the blocks F of a world, and hangs on these alone -/
structure Th where
  holds : Foot → World → Prop
  lt : ∀ F W, holds F W → ∀ k, F k → k < W.heap.size
  kept : ∀ F W W', holds F W → (∀ k, F k → W'.heap[k]? = W.heap[k]?) → holds F W'
structure Grows (F : Foot) (W : World) (F' : Foot) (W' : World) : Prop where
  os : W'.os = W.os
  tape : W'.tape = W.tape
  output : W'.output = W.output
  size : W.heap.size ≤ W'.heap.size
  block : ∀ k, k < W.heap.size → ¬ F k → W'.heap[k]? = W.heap[k]?
  foot : ∀ k, F' k → F k ∨ W.heap.size ≤ k
theorem Grows.trans {F F' F2 : Foot} {W W' W2 : World} (h : Grows F W F' W') (k : Grows F' W' F2 W2) : Grows F W F2 W2 :=
  ⟨k.os.trans h.os, k.tape.trans h.tape, k.output.trans h.output, Nat.le_trans h.size k.size, fun x hx h1 => (k.block x (Nat.lt_of_lt_of_le hx h.size) (fun h2 => by
    rcases h.foot x h2 with h3 | h3
    · exact h1 h3
    · omega)).trans (h.block x hx h1), fun x hx => by
    rcases k.foot x hx with h1 | h1
    · exact h.foot x h1
    · exact .inr (Nat.le_trans h.size h1)⟩
theorem Grows.of_below {F : Foot} {W W' : World} (h : Below W.heap.size W W') : Grows F W F W' := ⟨h.os, h.tape, h.output, h.size, fun k hk _ => h.block k hk, fun _ h => .inl h⟩
theorem Grows.sub {F F1 F' F2 : Foot} {W W' : World} (h : Grows F W F' W') (h1 : ∀ k, F k → F1 k) (h2 : ∀ k, F2 k → F' k) : Grows F1 W F2 W' :=
  ⟨h.os, h.tape, h.output, h.size, fun k hk hn => h.block k hk (fun hf => hn (h1 k hf)), fun k hk => (h.foot k (h2 k hk)).imp_left (h1 k)⟩
theorem Th.below (O : Th) {F : Foot} {W W' : World} (h : O.holds F W) (hb : Below W.heap.size W W') : O.holds F W' := O.kept F W W' h (fun k hk => hb.block k (O.lt F W h k hk))
abbrev Zl := List (Th × Foot)
structure ZooL (B : Nat) (W : World) (P : Zl) : Prop where
  holds : ∀ x ∈ P, x.1.holds x.2 W
  low : ∀ x ∈ P, ∀ k, x.2 k → B ≤ k
  apart : P.Pairwise (fun x y => ∀ k, x.2 k → ¬ y.2 k)
/-- the things L lie apart from each other, in memory made since W0; what was there before is as it was -/
def Zoo (W0 W : World) (L : List Th) : Prop := Below W0.heap.size W0 W ∧ ∃ P : Zl, P.map Prod.fst = L ∧ ZooL W0.heap.size W P
theorem Zoo.nil (W : World) : Zoo W W [] := ⟨Below.refl _ _, [], rfl, ⟨fun x hx => by simp at hx, fun x hx => by simp at hx, List.Pairwise.nil⟩⟩
theorem Zoo.below {W0 W W' : World} {L : List Th} (h : Zoo W0 W L) (hb : Below W.heap.size W W') : Zoo W0 W' L := by
  obtain ⟨h0, P, h1, h2⟩ := h
  exact ⟨h0.trans (hb.mono h0.size), P, h1, ⟨fun x hx => x.1.below (h2.holds x hx) hb, h2.low, h2.apart⟩⟩
theorem Zoo.drew {W0 W : World} {L : List Th} (h : Zoo W0 W L) : Zoo W0 W.drew L := h.below ((Below.refl _ _).drew)
theorem Zoo.alloc {W0 W : World} {L : List Th} (h : Zoo W0 W L) (o : Obj) : Zoo W0 (W.alloc o) L := h.below ((Below.refl _ _).alloc (Nat.le_refl _) o)
/-- a thing more, in memory that is new -/
theorem Zoo.more {W0 W W' : World} {L : List Th} (h : Zoo W0 W L) (hb : Below W.heap.size W W') (O : Th) (F : Foot) (hO : O.holds F W') (hF : ∀ k, F k → W.heap.size ≤ k) : Zoo W0 W' (O :: L) := by
  obtain ⟨h0, P, h1, h2⟩ := h.below hb
  obtain ⟨g0, Q, g1, g2⟩ := h
  refine ⟨h0, (O, F) :: Q, by rw [List.map_cons, g1], ⟨fun x hx => ?_, fun x hx k hk => ?_, ?_⟩⟩
  · rcases List.mem_cons.1 hx with rfl | hx
    · exact hO
    · exact x.1.below (g2.holds x hx) hb
  · rcases List.mem_cons.1 hx with rfl | hx
    · exact Nat.le_trans g0.size (hF k hk)
    · exact g2.low x hx k hk
  · refine List.pairwise_cons.2 ⟨fun y hy k hk hk2 => ?_, g2.apart⟩
    have := y.1.lt _ _ (g2.holds y hy) k hk2
    have := hF k hk
    omega
/-- a thing with no blocks of its own, or with what no other may have, beside the others -/
theorem Zoo.bare {W0 W : World} {L : List Th} (h : Zoo W0 W L) (O : Th) (hO : O.holds (fun _ => False) W) : Zoo W0 W (O :: L) := h.more (Below.refl _ _) O _ hO (fun _ h => h.elim)
theorem zl_set {P : Zl} {L : List Th} (h : P.map Prod.fst = L) (i : Nat) (x : Th × Foot) : (P.set i x).map Prod.fst = L.set i x.1 := by rw [List.map_set, h]
theorem zl_get {P : Zl} {L : List Th} (h : P.map Prod.fst = L) {i : Nat} {O : Th} (hi : L[i]? = some O) : ∃ F, P[i]? = some (O, F) := by
  rw [← h, List.getElem?_map] at hi
  cases hp : P[i]? with
  | none => rw [hp] at hi; cases hi
  | some x => rw [hp] at hi; cases hi; exact ⟨x.2, rfl⟩
theorem pairwise_at {P : Zl} (h : P.Pairwise (fun x y => ∀ k, x.2 k → ¬ y.2 k)) {i j : Nat} {x y : Th × Foot} (hx : P[i]? = some x) (hy : P[j]? = some y) (hij : i ≠ j) : ∀ k, x.2 k → ¬ y.2 k := by
  obtain ⟨hi, rfl⟩ := List.getElem?_eq_some_iff.1 hx
  obtain ⟨hj, rfl⟩ := List.getElem?_eq_some_iff.1 hy
  intro k h1 h2
  rcases Nat.lt_or_gt_of_ne hij with q | q
  · exact List.pairwise_iff_getElem.1 h i j hi hj q k h1 h2
  · exact List.pairwise_iff_getElem.1 h j i hj hi q k h2 h1
/-- one of the things is turned -/
theorem Zoo.act {W0 W : World} {L : List Th} (h : Zoo W0 W L) (i : Nat) (O : Th) (hi : L[i]? = some O) :
    ∃ F, O.holds F W ∧ (∀ k, F k → W0.heap.size ≤ k) ∧ ∀ (O' : Th) (F' : Foot) (W' : World), O'.holds F' W' → Grows F W F' W' → Zoo W0 W' (L.set i O') := by
  obtain ⟨h0, P, h1, h2⟩ := h
  obtain ⟨F, hF⟩ := zl_get h1 hi
  have hm := List.mem_of_getElem? hF
  have hlow := h2.low _ hm
  refine ⟨F, h2.holds _ hm, hlow, fun O' F' W' hO hG => ⟨⟨hG.os.trans h0.os, hG.tape.trans h0.tape, hG.output.trans h0.output, Nat.le_trans h0.size hG.size, fun k hk => (hG.block k (Nat.lt_of_lt_of_le hk h0.size) (fun hf => by have := hlow k hf; omega)).trans (h0.block k hk)⟩, P.set i (O', F'), zl_set h1 i _, ?_⟩⟩
  have hil := (List.getElem?_eq_some_iff.1 hF).1
  have hcase : ∀ j x, (P.set i (O', F'))[j]? = some x → (j = i ∧ x = (O', F')) ∨ (j ≠ i ∧ P[j]? = some x) := fun j x hx => by
    rw [List.getElem?_set] at hx
    by_cases e : i = j
    · subst e; rw [if_pos rfl, if_pos hil] at hx; exact .inl ⟨rfl, (Option.some.inj hx).symm⟩
    · rw [if_neg e] at hx; exact .inr ⟨fun q => e q.symm, hx⟩
  refine ⟨fun x hx => ?_, fun x hx k hk => ?_, List.pairwise_iff_getElem.2 fun a b ha hb hab k hk1 hk2 => ?_⟩
  · obtain ⟨j, hj, rfl⟩ := List.mem_iff_getElem.1 hx
    rcases hcase j _ (List.getElem?_eq_getElem hj) with ⟨_, e⟩ | ⟨e, hp⟩
    · rw [e]; exact hO
    · have hh := h2.holds _ (List.mem_of_getElem? hp)
      exact Th.kept _ _ _ _ hh (fun k hk => hG.block k (Th.lt _ _ _ hh k hk) (fun hf => pairwise_at h2.apart hp hF e k hk hf))
  · obtain ⟨j, hj, rfl⟩ := List.mem_iff_getElem.1 hx
    rcases hcase j _ (List.getElem?_eq_getElem hj) with ⟨_, e⟩ | ⟨e, hp⟩
    · rw [e] at hk
      rcases hG.foot k hk with q | q
      · exact hlow k q
      · exact Nat.le_trans h0.size q
    · exact h2.low _ (List.mem_of_getElem? hp) k hk
  · have new : ∀ (j : Nat) (y : Th × Foot), P[j]? = some y → j ≠ i → F' k → ¬ y.2 k := fun j y hy hj hf hy2 => by
      rcases hG.foot k hf with q | q
      · exact pairwise_at h2.apart hy hF hj k hy2 q
      · have := Th.lt _ _ _ (h2.holds y (List.mem_of_getElem? hy)) k hy2; omega
    rcases hcase a _ (List.getElem?_eq_getElem ha) with ⟨e1, q1⟩ | ⟨e1, q1⟩ <;> rcases hcase b _ (List.getElem?_eq_getElem hb) with ⟨e2, q2⟩ | ⟨e2, q2⟩
    · omega
    · rw [q1] at hk1; exact new b _ q2 e2 hk1 hk2
    · rw [q2] at hk2; exact new a _ q1 e1 hk2 hk1
    · exact pairwise_at h2.apart q1 q2 (by omega) k hk1 hk2
theorem Zoo.get {W0 W : World} {L : List Th} (h : Zoo W0 W L) (i : Nat) (O : Th) (hi : L[i]? = some O) : ∃ F, O.holds F W ∧ ∀ k, F k → W0.heap.size ≤ k := by
  obtain ⟨F, h1, h2, _⟩ := h.act i O hi
  exact ⟨F, h1, h2⟩
/-- a thing is another, in the same blocks -/
theorem Zoo.turn {W0 W : World} {L : List Th} (h : Zoo W0 W L) (i : Nat) (O O' : Th) (hi : L[i]? = some O) (ht : ∀ F, O.holds F W → O'.holds F W) : Zoo W0 W (L.set i O') := by
  obtain ⟨F, h1, _, h2⟩ := h.act i O hi
  exact h2 O' F W (ht F h1) (Grows.of_below (Below.refl _ _))
theorem Zoo.sub {W0 W : World} {L L' : List Th} (h : Zoo W0 W L) (hs : L'.Sublist L) : Zoo W0 W L' := by
  obtain ⟨h0, P, h1, h2⟩ := h
  subst h1
  obtain ⟨P', hP, rfl⟩ := List.sublist_map_iff.1 hs
  exact ⟨h0, P', rfl, ⟨fun x hx => h2.holds x (hP.subset hx), fun x hx => h2.low x (hP.subset hx), h2.apart.sublist hP⟩⟩
theorem Zoo.bel {W0 W : World} {L : List Th} (h : Zoo W0 W L) : Below W0.heap.size W0 W := h.1
/-- the first two change places -/
theorem Zoo.swap {W0 W : World} {L : List Th} {a b : Th} (h : Zoo W0 W (a :: b :: L)) : Zoo W0 W (b :: a :: L) := by
  obtain ⟨h0, P, h1, h2⟩ := h
  match P, h1 with
  | x :: y :: P, h1 =>
    simp only [List.map_cons, List.cons.injEq] at h1
    obtain ⟨rfl, rfl, rfl⟩ := h1
    have ha := h2.apart
    simp only [List.pairwise_cons, List.mem_cons] at ha
    refine ⟨h0, y :: x :: P, rfl, ⟨fun z hz => h2.holds z (by simp only [List.mem_cons] at hz ⊢; rcases hz with h | h | h <;> simp [h]), fun z hz => h2.low z (by simp only [List.mem_cons] at hz ⊢; rcases hz with h | h | h <;> simp [h]), ?_⟩⟩
    simp only [List.pairwise_cons, List.mem_cons]
    refine ⟨fun z hz k hk1 hk2 => ?_, fun z hz => ha.1 z (.inr hz), ha.2.2⟩
    rcases hz with rfl | hz
    · exact ha.1 y (.inl rfl) k hk2 hk1
    · exact ha.2.1 z hz k hk1 hk2
/-- under the first two a third comes ahead -/
theorem Zoo.swap2 {W0 W : World} {L : List Th} {a b c : Th} (h : Zoo W0 W (a :: b :: c :: L)) : Zoo W0 W (a :: c :: b :: L) := by
  obtain ⟨h0, P, h1, h2⟩ := h
  rcases P with _ | ⟨x, _ | ⟨y, _ | ⟨z, P⟩⟩⟩
  · simp at h1
  · simp at h1
  · simp at h1
  · simp only [List.map_cons, List.cons.injEq] at h1
    obtain ⟨rfl, rfl, rfl, rfl⟩ := h1
    have hp : (x :: z :: y :: P).Perm (x :: y :: z :: P) := List.Perm.cons x (List.Perm.swap y z P)
    exact ⟨h0, x :: z :: y :: P, rfl, ⟨fun q hq => h2.holds q (hp.mem_iff.1 hq), fun q hq => h2.low q (hp.mem_iff.1 hq), hp.symm.pairwise h2.apart (fun h k h1 h2 => h k h2 h1)⟩⟩
theorem Zoo.tail {W0 W : World} {L : List Th} {a : Th} (h : Zoo W0 W (a :: L)) : Zoo W0 W L := h.sub (List.sublist_cons_self _ _)
/-- what is apart from it stays apart: a thing is put away for a while -/
theorem Zoo.cell {W0 W : World} {L : List Th} (h : Zoo W0 W L) {b j : Nat} {v : Value} (hb : b < W0.heap.size) (hc : W0.cell? ⟨b, j, none⟩ = some v) : W.cell? ⟨b, j, none⟩ = some v := (h.bel.cell (p := ⟨b, j, none⟩) hb).trans hc
/-- cells in a block of their own -/
def boxT (B : Nat) (C : Array Value) (t : TypeId) : Th := ⟨fun F W => W.heap[B]? = some (.cells C t (0, 0)) ∧ ∀ k, F k ↔ k = B, fun F W h k hk => by
    rw [(h.2 k).1 hk]; exact (Array.getElem?_eq_some_iff.1 h.1).1, fun F W W' h hk => ⟨(hk B ((h.2 B).2 rfl)).trans h.1, h.2⟩⟩
theorem Zoo.box {W0 W : World} {L : List Th} {B : Nat} {C : Array Value} {t : TypeId} (h : Zoo W0 W L) (i : Nat) (hi : L[i]? = some (boxT B C t)) : W.heap[B]? = some (.cells C t (0, 0)) ∧ W0.heap.size ≤ B := by
  obtain ⟨F, h1, h2⟩ := h.get i _ hi
  exact ⟨h1.1, h2 B ((h1.2 B).2 rfl)⟩
theorem Zoo.newBox {W0 W : World} {L : List Th} (h : Zoo W0 W L) (C : Array Value) (t : TypeId) : Zoo W0 (W.alloc (.cells C t)) (boxT W.heap.size C t :: L) :=
  h.more ((Below.refl _ _).alloc (Nat.le_refl _) _) _ (fun k => k = W.heap.size) ⟨heap_alloc_new W _, fun _ => Iff.rfl⟩ (fun _ hk => Nat.le_of_eq hk.symm)
theorem box_cell {W : World} {B : Nat} {C : Array Value} {t : TypeId} (h : W.heap[B]? = some (.cells C t (0, 0))) (j : Nat) : W.cell? ⟨B, j, none⟩ = C[j]? := by simp [World.cell?, h]
theorem box_free {W : World} {B : Nat} {C : Array Value} {t : TypeId} (h : W.heap[B]? = some (.cells C t (0, 0))) (j : Nat) : W.frozen? ⟨B, j, none⟩ = false := by simp [World.frozen?, h]
end Go.Proofs.Ytjopbglimjhefaa
