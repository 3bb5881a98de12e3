/- Slices that are only read, and appending one of them to a row of the call's own; plain lemmas over any program. -/
import Derived.Test.YtjopbglimjhefaaKit
import Derived.Deep.AppendLies
namespace Go.Proofs.Ytjopbglimjhefaa
open Go.RowKit

/-- v is a slice of n elements; its cells are cs -/
def Rd (w : World) (v : Value) (n : Nat) (cs : List Value) : Prop := ∃ ao cap, v = .slice ao n cap ∧ (n = 0 ∨ ∃ b o, ao = some ⟨b, o, none⟩ ∧ b < w.heap.size ∧ n ≤ cap ∧ ∀ i u, cs[i]? = some u → w.cell? ⟨b, o + i, none⟩ = some u)
theorem Rd.below {w w' : World} {v : Value} {n : Nat} {cs : List Value} (h : Rd w v n cs) (hb : Below w.heap.size w w') : Rd w' v n cs := by
  obtain ⟨ao, cap, hv, h | ⟨b, o, ha, hlt, hle, hc⟩⟩ := h
  · exact ⟨ao, cap, hv, .inl h⟩
  · exact ⟨ao, cap, hv, .inr ⟨b, o, ha, Nat.lt_of_lt_of_le hlt hb.size, hle, fun i u hu => (hb.cell (p := ⟨b, o + i, none⟩) hlt).trans (hc i u hu)⟩⟩
theorem Rd.heap {w w' : World} {v : Value} {n : Nat} {cs : List Value} (h : Rd w v n cs) (hh : w'.heap = w.heap) : Rd w' v n cs := by
  obtain ⟨ao, cap, hv, h | ⟨b, o, ha, hlt, hle, hc⟩⟩ := h
  · exact ⟨ao, cap, hv, .inl h⟩
  · exact ⟨ao, cap, hv, .inr ⟨b, o, ha, by rw [hh]; exact hlt, hle, fun i u hu => by have := hc i u hu; simp only [World.cell?, hh] at this ⊢; exact this⟩⟩
theorem Rd.of_own {w : World} {B k : Nat} {e : TypeId} {v : Value} {n : Nat} {cs : List Value} (h : w.ownsRow B e k v n cs) : Rd w v n cs := by
  rcases h.2 with ⟨rfl, rfl⟩ | ⟨g, cap, cur, rfl, hB, hg, hle, _⟩
  · exact ⟨none, 0, rfl, .inl rfl⟩
  · exact ⟨_, cap, rfl, .inr ⟨g, 0, rfl, (Array.getElem?_eq_some_iff.1 hg).1, hle, fun i u hu => by have := World.ownsRow.cells h (g := g) rfl i u hu; simpa [Addr.add_lit] using this⟩⟩
/-- Rd of memory from before block B, in a world in which nothing below B has turned -/
def RdB (B : Nat) (w : World) (v : Value) (n : Nat) (cs : List Value) : Prop := ∃ ao cap, v = .slice ao n cap ∧ (n = 0 ∨ ∃ b o, ao = some ⟨b, o, none⟩ ∧ b < B ∧ n ≤ cap ∧ ∀ i u, cs[i]? = some u → w.cell? ⟨b, o + i, none⟩ = some u)
theorem Rd.at_ {w : World} {v : Value} {n : Nat} {cs : List Value} (h : Rd w v n cs) : RdB w.heap.size w v n cs := h
theorem RdB.later {B : Nat} {w w' : World} {v : Value} {n : Nat} {cs : List Value} (h : RdB B w v n cs) (hb : Below B w w') : RdB B w' v n cs := by
  obtain ⟨ao, cap, hv, h | ⟨b, o, ha, hlt, hle, hc⟩⟩ := h
  · exact ⟨ao, cap, hv, .inl h⟩
  · exact ⟨ao, cap, hv, .inr ⟨b, o, ha, hlt, hle, fun i u hu => (hb.cell (p := ⟨b, o + i, none⟩) hlt).trans (hc i u hu)⟩⟩
theorem RdB.len {B : Nat} {w : World} {v : Value} {n : Nat} {cs : List Value} (h : RdB B w v n cs) : ∃ ao cap, v = .slice ao n cap := by
  obtain ⟨ao, cap, hv, _⟩ := h
  exact ⟨ao, cap, hv⟩
theorem RdB.at_pos {B : Nat} {w : World} {ao : Option Addr} {cap n : Nat} {cs : List Value} (h : RdB B w (.slice ao n cap) n cs) (hn : 0 < n) : ∃ b o, ao = some ⟨b, o, none⟩ ∧ b < B ∧ ∀ i u, cs[i]? = some u → w.cell? ⟨b, o + i, none⟩ = some u := by
  obtain ⟨ao', cap', hv, h | h⟩ := h
  · omega
  · cases hv
    obtain ⟨b, o, h1, h2, _, h3⟩ := h
    exact ⟨b, o, h1, h2, h3⟩
theorem RdB.cap_le {B : Nat} {w : World} {ao : Option Addr} {cap n : Nat} {cs : List Value} (h : RdB B w (.slice ao n cap) n cs) (hn : 0 < n) : n ≤ cap := by
  obtain ⟨ao', cap', hv, h | ⟨b, o, h1, h2, h3, _⟩⟩ := h
  · omega
  · cases hv; exact h3
theorem Rd.cap_le {w : World} {ao : Option Addr} {cap n : Nat} {cs : List Value} (h : Rd w (.slice ao n cap) n cs) (hn : 0 < n) : n ≤ cap := RdB.cap_le (B := w.heap.size) h hn
theorem Rd.at_pos {w : World} {ao : Option Addr} {cap n : Nat} {cs : List Value} (h : Rd w (.slice ao n cap) n cs) (hn : 0 < n) : ∃ b o, ao = some ⟨b, o, none⟩ ∧ b < w.heap.size ∧ ∀ i u, cs[i]? = some u → w.cell? ⟨b, o + i, none⟩ = some u := RdB.at_pos (B := w.heap.size) h hn
theorem run_append_owned_empty {P : Program} {w : World} (base : Nat) (t ty e : TypeId) (i : TypeInfo) (size : Nat) (ht : P.underlying t = some (.slice e)) (hi : P.info? e = some i)
    (v : Value) (n : Nat) (xs : List Value) (hown : w.ownsRow base e size v n xs) (ao : Option Addr) (c : Nat) :
    (Builtin.append_ #[t, t] ty #[v, .slice ao 0 c]).run P w = .ok v w := by
  rcases hown.2 with ⟨rfl, rfl⟩ | ⟨g, cap, cur, rfl, _, _, hnc, _⟩
  · cases ao <;> simp [Builtin.append_, run_underlying ht, sizeOf, typeInfo, hi, Builtin.lenOf, Builtin.firstCells, loadCells, loadCellsFrom]
  · cases ao <;> simp [Builtin.append_, run_underlying ht, sizeOf, typeInfo, hi, Builtin.lenOf, Builtin.firstCells, hnc, storeCells, loadCells, loadCellsFrom]
theorem wp_append_rd {P : Program} {w : World} {o : Oper} {a : Act} {K : Act → World → Prop} {Q : Exit → Act → World → Prop} (s x : Operand) (t : TypeId)
    (ho : o.op = .call { callee := .builtin .append, args := #[s, x], argTypes := #[t, t] }) (B : Nat) (e : TypeId) (z : Value) (size bytes : Nat) (ht : P.underlying t = some (.slice e)) (hi : (P.info? e).map (fun i => (i.zero, i.size, i.bytes)) = some (some z, size, bytes)) (hzs : z.cells.size = size) (hsz : 0 < size)
    (v v2 : Value) (n m : Nat) (xs news : List Value) (hs : a.eval s = v) (hx : a.eval x = v2) (hown : w.ownsRow B e size v n xs) (h2 : Rd w v2 m news) (hl : news.length = m * size) (h1 : ∀ u ∈ news, u.oneCell' = true) (h63 : n + m ≤ maxLen) (hbytes : (n + m) * bytes ≤ 140737488355328) (hbase : B ≤ w.heap.size)
    (h : ∀ v' w', w'.ownsRow B e size v' (n + m) (xs ++ news) → w.grownBy w' v.ownBlock → (∀ g, v'.ownBlock = some g → v.ownBlock = some g ∨ w.heap.size ≤ g) → K (a.put o.dst v') w') : Oper.wp P o a w K Q := by
  obtain ⟨i, hi0, hz, hz1, hz2⟩ := info_parts hi
  obtain ⟨ao, cap, rfl, h3⟩ := h2
  rcases Nat.eq_zero_or_pos m with rfl | hm
  · have hn : news = [] := List.eq_nil_of_length_eq_zero (by simpa using hl)
    subst hn
    have hrun := run_append_owned_empty (P := P) (w := w) B t o.type e i size ht hi0 v n xs hown ao cap
    unfold Oper.wp
    simp [execOp, ho, resolve, invoke, builtin, hs, hx, hrun, Result.andThen]
    exact h _ _ (by simpa using hown) ⟨rfl, rfl, rfl, Nat.le_refl _, fun _ _ _ => rfl⟩ (fun g hg => .inl hg)
  · rcases h3 with h3 | ⟨b, off, rfl, hlt, _, hc⟩
    · omega
    · refine wp_append_lies w s x t ho B e i z size bytes ht hi0 hz hz1 hz2 hzs hsz v n xs hs hown ⟨b, off, none⟩ m cap news hx hl (fun j u hu => by rw [Addr.add_lit]; exact hc j u hu) h1 hm h63 hbytes hbase _ rfl ?_
      intro g1 cap1 w' hown1 hg hat hlt1
      refine h _ _ hown1 hg (fun k hk => ?_)
      have : g1 = k := by simpa [Value.ownBlock] using hk
      subst this
      rcases hat with h4 | h4
      · exact .inl h4
      · right; omega
/-- 'append(v, v2...)': v a row of the call's own (from block B on), v2 a slice that reads so -/
theorem wpList_append_rd {P : Program} {w : World} {ops : Array Oper} {rest : List Oper} {o : Oper} {a : Act} {Q : Exit → Act → World → Prop} (hgd : o.guard = none) (s x : Operand) (t : TypeId)
    (ho : o.op = .call { callee := .builtin .append, args := #[s, x], argTypes := #[t, t] }) (B : Nat) (e : TypeId) (z : Value) (size bytes : Nat) (ht : P.underlying t = some (.slice e)) (hi : (P.info? e).map (fun i => (i.zero, i.size, i.bytes)) = some (some z, size, bytes)) (hzs : z.cells.size = size) (hsz : 0 < size)
    (v v2 : Value) (n m : Nat) (xs news : List Value) (hs : a.eval s = v) (hx : a.eval x = v2) (hown : w.ownsRow B e size v n xs) (h2 : Rd w v2 m news) (hl : news.length = m * size) (h1 : ∀ u ∈ news, u.oneCell' = true) (h63 : n + m ≤ maxLen) (hbytes : (n + m) * bytes ≤ 140737488355328) (hbase : B ≤ w.heap.size)
    (h : ∀ v' w', w'.ownsRow B e size v' (n + m) (xs ++ news) → w.grownBy w' v.ownBlock → (∀ g, v'.ownBlock = some g → v.ownBlock = some g ∨ w.heap.size ≤ g) → wpList P ops Q rest (a.put o.dst v') w') : wpList P ops Q (o :: rest) a w :=
  wpList_plain hgd fun _ hK => wp_append_rd s x t ho B e z size bytes ht hi hzs hsz v v2 n m xs news hs hx hown h2 hl h1 h63 hbytes hbase fun v' w' h2 h3 h4 => hK _ _ (h v' w' h2 h3 h4)
theorem below_drewN {B : Nat} {a w : World} (h : Below B a w) (n : Nat) : Below B a (w.drewN n) := ⟨h.os, h.tape, h.output, h.size, h.block⟩
/-- the pieces, one behind the other -/
def catB (ss : List ByteArray) : List UInt8 := ss.flatMap fun s => s.data.toList
def strCells (ss : List ByteArray) : List Value := ss.map Value.string
theorem catB_snoc (ss : List ByteArray) (i : Nat) (h : i < ss.length) : catB (ss.take (i + 1)) = catB (ss.take i) ++ ss[i].data.toList := by
  unfold catB
  rw [List.take_succ_eq_append_getElem h, List.flatMap_append]; simp
theorem catB_len (ss : List ByteArray) (i : Nat) : (catB (ss.take i)).length ≤ (catB ss).length := by
  have h : catB ss = catB (ss.take i) ++ catB (ss.drop i) := by
    unfold catB
    rw [← List.flatMap_append, List.take_append_drop]
  rw [h, List.length_append]; omega
theorem strCells_at (ss : List ByteArray) (k : Nat) (h : k < ss.length) : (strCells ss)[k]? = some (.string ss[k]) := by simp [strCells, h]
end Go.Proofs.Ytjopbglimjhefaa
