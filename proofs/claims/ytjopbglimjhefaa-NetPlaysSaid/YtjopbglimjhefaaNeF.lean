/- Push of flight: walked. -/
import Derived.Test.YtjopbglimjhefaaNeE
import Derived.Deep.RegionLaw
import Derived.Deep.RegionHeldLaw
namespace Go.Proofs.Ytjopbglimjhefaa
open Go.RowKit

theorem pk_info : (Try.prog.info? 30).map (fun i => (i.zero, i.size, i.bytes)) = some (some (.agg #[.int .i64 0, .int .i64 0, .int .i64 0, .string ⟨#[]⟩, .int .i64 0]), 5, 48) := by kernel_rfl
def OwnP (w : World) (v : Value) (l : List Pk) : Prop := w.ownsRow 0 30 5 v l.length (rowCells l)
theorem rowCells_one : ∀ (l : List Pk), ∀ u ∈ rowCells l, u.oneCell' = true := fun l u hu => by
  obtain ⟨k, _, hk⟩ := List.mem_flatMap.1 hu
  simp only [pkCells, List.mem_cons, List.not_mem_nil, or_false] at hk
  rcases hk with rfl | rfl | rfl | rfl | rfl <;> rfl
def pkVal (p : Pk) : Value := .agg #[.int .i64 p.id, .int .i64 p.src, .int .i64 p.dst, .string p.data, .int .i64 p.due]
theorem assert_pk (x : Value) (w : World) : (Instr.typeAssert (.iface 30 x) 20 30 true).run Try.prog w = .ok (.tuple #[x, .bool true]) w := by kernel_rfl
theorem rowCells_one1 (p : Pk) : ∀ u ∈ pkCells p, u.oneCell' = true := fun u hu => rowCells_one [p] u (by simpa [rowCells] using hu)
theorem news_pk (W : World) (c1 : Obj) (p : Pk) (t : TypeId) : ∀ j u, (pkCells p)[j]? = some u → (((W.alloc c1).alloc (.cells #[.int .i64 p.id, .int .i64 p.src, .int .i64 p.dst, .string p.data, .int .i64 p.due] t)).drew).cell? ((⟨W.heap.size + 1, 0, none⟩ : Addr).add j) = some u := by
  have h := heap_alloc_new (W.alloc c1) (.cells #[.int .i64 p.id, .int .i64 p.src, .int .i64 p.dst, .string p.data, .int .i64 p.due] t)
  have e : (W.alloc c1).heap.size = W.heap.size + 1 := by simp
  rw [e] at h
  exact World.news_of_block h
/-- what the append has left as it was -/
theorem grown_b {W w1 : World} {c1 c2 : Obj} {b : Nat} {r : Option Nat} {v : Value} (hb1 : b < W.heap.size) (hne : r ≠ some b) (hc : W.cell? ⟨b, 0, none⟩ = some v) (hf : W.frozen? ⟨b, 0, none⟩ = false) (hg : (((W.alloc c1).alloc c2).drew).grownBy w1 r) : w1.cell? ⟨b, 0, none⟩ = some v ∧ w1.frozen? ⟨b, 0, none⟩ = false := by
  have hk : ((W.alloc c1).alloc c2).drew.heap[b]? = W.heap[b]? := by
    show ((W.alloc c1).alloc c2).heap[b]? = _
    rw [heap_alloc_old _ _ (by simp; omega), heap_alloc_old _ _ hb1]
  have hlt : b < ((W.alloc c1).alloc c2).drew.heap.size := by simp; omega
  exact ⟨(hg.cell_far ⟨b, 0, none⟩ hlt (Ne.symm hne)).trans ((World.cell?_of_block hk).trans hc), (hg.frozen_far ⟨b, 0, none⟩ hlt (Ne.symm hne)).trans ((World.frozen?_of_block hk).trans hf)⟩
/-- a flight in block b: its slice v, which is its own -/
def Fl (W : World) (b : Nat) (v : Value) (l : List Pk) : Prop := W.cell? ⟨b, 0, none⟩ = some v ∧ W.frozen? ⟨b, 0, none⟩ = false ∧ OwnP W v l ∧ v.ownBlock ≠ some b
/-- all but the flight's slice and its row is as it was -/
structure FSame (W : World) (b : Nat) (v : Value) (W' : World) : Prop where
  os : W'.os = W.os
  tape : W'.tape = W.tape
  output : W'.output = W.output
  size : W.heap.size ≤ W'.heap.size
  block : ∀ k, k < W.heap.size → k ≠ b → v.ownBlock ≠ some k → W'.heap[k]? = W.heap[k]?
  cell : ∀ j, j ≠ 0 → W'.cell? ⟨b, j, none⟩ = W.cell? ⟨b, j, none⟩
  free : ∀ j, W'.frozen? ⟨b, j, none⟩ = W.frozen? ⟨b, j, none⟩
/-- v' lies where v lay, or in a block made since -/
def Later (W : World) (v v' : Value) : Prop := ∀ g, v'.ownBlock = some g → v.ownBlock = some g ∨ W.heap.size ≤ g
theorem Later.refl (W : World) (v : Value) : Later W v v := fun _ h => .inl h
theorem FSame.refl (W : World) (b : Nat) (v : Value) : FSame W b v W := ⟨rfl, rfl, rfl, Nat.le_refl _, fun _ _ _ _ => rfl, fun _ _ => rfl, fun _ => rfl⟩
theorem FSame.trans {W W' W2 : World} {b : Nat} {v v' : Value} (h : FSame W b v W') (hl : Later W v v') (k : FSame W' b v' W2) : FSame W b v W2 :=
  ⟨k.os.trans h.os, k.tape.trans h.tape, k.output.trans h.output, Nat.le_trans h.size k.size, fun x hx h1 h2 => (k.block x (Nat.lt_of_lt_of_le hx h.size) h1 (fun h3 => by
    rcases hl x h3 with h4 | h4
    · exact h2 h4
    · omega)).trans (h.block x hx h1 h2), fun j hj => (k.cell j hj).trans (h.cell j hj), fun j => (k.free j).trans (h.free j)⟩
theorem Later.trans {W W' : World} {v v' v2 : Value} (h : Later W v v') (k : Later W' v' v2) (hs : W.heap.size ≤ W'.heap.size) : Later W v v2 := fun g hg => by
  rcases k g hg with h1 | h1
  · exact h g h1
  · exact .inr (Nat.le_trans hs h1)
theorem FSame.of_kept1 {W W' : World} {b g : Nat} {v : Value} (h : Kept1 W g W') (hv : v.ownBlock = some g) (hb : b ≠ g) (hlt : b < W.heap.size) : FSame W b v W' :=
  ⟨h.1, h.2.1, h.2.2.1, h.2.2.2.1, fun k hk h1 h2 => h.2.2.2.2 k hk (fun e => h2 (by rw [hv, e])), fun j _ => World.cell?_of_block (h.2.2.2.2 b hlt hb), fun j => World.frozen?_of_block (h.2.2.2.2 b hlt hb)⟩
theorem push_end {W w1 : World} {c1 c2 : Obj} {b g cap : Nat} {v : Value} {l : List Pk} {p : Pk} (hb1 : b < W.heap.size) (hb : v.ownBlock ≠ some b) (hcb : w1.cell? ⟨b, 0, none⟩ = some v) (hfb : w1.frozen? ⟨b, 0, none⟩ = false)
    (hown : w1.ownsRow 0 30 5 (.slice (some ⟨g, 0, none⟩) (l.length + 1) cap) (l.length + 1) (rowCells l ++ pkCells p)) (hg : (((W.alloc c1).alloc c2).drew).grownBy w1 v.ownBlock) (hat : v.ownBlock = some g ∨ g = ((W.alloc c1).alloc c2).drew.heap.size) :
    Fl (w1.setCell ⟨b, 0, none⟩ (.slice (some ⟨g, 0, none⟩) (l.length + 1) cap)) b (.slice (some ⟨g, 0, none⟩) (l.length + 1) cap) (l ++ [p]) ∧ FSame W b v (w1.setCell ⟨b, 0, none⟩ (.slice (some ⟨g, 0, none⟩) (l.length + 1) cap)) ∧ Later W v (.slice (some ⟨g, 0, none⟩) (l.length + 1) cap) := by
  have hsz : ((W.alloc c1).alloc c2).drew.heap.size = W.heap.size + 2 := by simp
  have hgb : b ≠ g := by
    rcases hat with h | h
    · intro e; exact hb (by rw [h, e])
    · omega
  have hk : ∀ k, k < W.heap.size → v.ownBlock ≠ some k → w1.heap[k]? = W.heap[k]? := fun k hk hv => by
    refine (hg.block k (by omega) (fun e => hv e.symm)).trans ?_
    show ((W.alloc c1).alloc c2).heap[k]? = _
    rw [heap_alloc_old _ _ (by simp; omega), heap_alloc_old _ _ hk]
  have hkb := hk b hb1 hb
  refine ⟨⟨World.cell?_setCell_same _ _ _ hcb, by simpa using hfb, ?_, fun e => hgb (by simpa [Value.ownBlock] using e.symm)⟩, ⟨?_, ?_, ?_, ?_, fun k hk1 h1 h2 => ?_, fun j hj => ?_, fun j => ?_⟩, fun k hk1 => ?_⟩
  · unfold OwnP
    have e : rowCells (l ++ [p]) = rowCells l ++ pkCells p := by simp [rowCells]
    rw [List.length_append, e]
    refine ⟨hown.1, ?_⟩
    rcases hown.2 with ⟨h1, _⟩ | ⟨g1, cap1, cur, h1, h2, h3, h4⟩
    · cases h1
    · refine .inr ⟨g1, cap1, cur, h1, h2, ?_, h4⟩
      have : g1 = g := by injection h1 with h5; injection h5 with h6; injection h6 with h7; exact h7.symm
      rw [heap_setCell_other w1 ⟨b, 0, none⟩ g1 _ (by rw [this]; exact Ne.symm hgb)]
      exact h3
  · exact hg.os
  · exact hg.tape
  · exact hg.output
  · have := hg.size; simp at this ⊢; omega
  · rw [heap_setCell_other w1 ⟨b, 0, none⟩ k _ h1]
    exact hk k hk1 h2
  · rw [World.cell?_setCell_other _ _ _ _ (fun e => hj (by injection e with _ e2; exact e2.symm))]
    exact World.cell?_of_block hkb
  · have : (w1.setCell ⟨b, 0, none⟩ (.slice (some ⟨g, 0, none⟩) (l.length + 1) cap)).frozen? ⟨b, j, none⟩ = w1.frozen? ⟨b, j, none⟩ := by simp
    rw [this]
    exact World.frozen?_of_block hkb
  · have hkg : g = k := by simpa [Value.ownBlock] using hk1
    subst hkg
    rcases hat with h | h
    · exact .inl h
    · exact .inr (by omega)
set_option maxRecDepth 100000 in
set_option maxHeartbeats 4000000 in
theorem push_any (b : Nat) (v : Value) (l : List Pk) (p : Pk) (hlen : l.length ≤ 1000000) (W : World) (hfl : Fl W b v l) :
    Calls Try.prog 83 #[.pointer (some ⟨b, 0, none⟩), .iface 30 (pkVal p)] W fun e w' => e = .returned (.tuple #[]) ∧ ∃ v', Hid (Fl w' b v' (l ++ [p])) ∧ Hid (FSame W b v w' ∧ Later W v v') := by
  obtain ⟨hc, hf, ho, hb⟩ := hfl
  have hb1 := World.block_lt_of_cell? W ⟨b, 0, none⟩ hc
  have ha := assert_pk
  obtain ⟨i0, hi0, hz, hz1, hz2⟩ := info_parts pk_info
  replace hi0 := Lib.hid hi0
  replace hz := Lib.hid hz
  replace hz1 := Lib.hid hz1
  replace hz2 := Lib.hid hz2
  replace ho := Lib.hid ho
  replace hb := Lib.hid hb
  have hb1' : b < W.heap.size := hb1
  have hbs : b ≠ W.heap.size := by omega
  unfold pkVal
  go_enter Try.func83, Try.ntmps83
  go_wp2_with fail
  go_region_law ((refine step_append_lies _ (by rfl) _ _ _ (by rfl) 0 30 i0 _ 5 48 Try.underlying54 hi0.out hz.out hz1.out hz2.out (by rfl) (by decide) v l.length (rowCells l) (by rfl) ((ho.out.alloc _).alloc _) ⟨W.heap.size + 1, 0, none⟩ 1 1 (pkCells p) (by rfl) rfl (news_pk W _ p _) (rowCells_one1 p) (by decide) (by unfold maxLen; omega) (by omega) (Nat.zero_le _) _ rfl ?_; intro g cap w1 hown1 hgrow hat hlt; obtain ⟨hcb, hfb⟩ := grown_b hb1' hb.out hc hf hgrow; replace hgrow := Lib.hid hgrow; replace hown1 := Lib.hid hown1; replace hat := Lib.hid hat))
  all_goals
    have hfin := Lib.hid (push_end hb1' hb.out hcb hfb hown1.out hgrow.out hat.out)
    clear hown1 hgrow hat hcb hfb
    go_end0
    exact ⟨rfl, _, Lib.hid hfin.out.1, Lib.hid hfin.out.2⟩
end Go.Proofs.Ytjopbglimjhefaa
