/- Small plain lemmas on byte strings, byte rows and owned rows; Slices that are only read, and appending one of them to a ro; Things in memory, none in another's way: each has blocks of ; A region that draws its order and ends in a store: its head ; Shorter forms of what the walks say again and again -/
import Derived.WalkKit
import Derived.WalkSpells
import Derived.WalkLawsBesides
import Derived.Lib.Hide
import Derived.Lib.ConvBytes
import Derived.Lib.UnsafeStr
import Derived.Lib.BufferWrite
import Derived.Deep.AppendLies
import Derived.Deep.RegionHeld3
import Derived.Deep.DrawnRows
import Derived.StillTail
namespace Go.Proofs.YtdobbfjmlnlieaaGreat
set_option linter.unusedSimpArgs false
section
open Go.RowKit
theorem Nz (a b : ByteArray) : (a ++ b).data.toList = a.data.toList ++ b.data.toList := by simp
theorem zy (s : ByteArray) : s.size = s.data.toList.length := rfl
theorem vg (s : ByteArray) (k : Nat) (h : k < s.size) : s.data.toList.take (k + 1) = s.data.toList.take k ++ [s[k]] := by
 rw [List.take_succ_eq_append_getElem (by simpa using h)]; rfl
theorem Bj (s : ByteArray) : s.data.toList.take s.size = s.data.toList := List.take_of_length_le (by rw [Array.length_toList]; exact Nat.le_refl _)
theorem Cn (s : ByteArray) (k : Nat) (h : k < s.size) : s.data.toList.drop k = s[k] :: s.data.toList.drop (k + 1) := by
 rw [List.drop_eq_getElem_cons (by simpa using h)]; rfl
theorem Vm (s : ByteArray) {k : Nat} (h : s.size ≤ k) : s.data.toList.drop k = [] := List.drop_of_length_le (by rw [Array.length_toList]; exact h)
theorem Eu (s : ByteArray) : decide (0 < s.size) = !s.data.toList.isEmpty := by
 rw [zy]; cases s.data.toList <;> simp
theorem Oe (s : ByteArray) : decide ((0 : Int) < (s.size : Int)) = !s.data.toList.isEmpty := by
 rw [← Eu]; simp
theorem fx_ (c : UInt8) : (c.toNat : Int) < 256 := by have := c.toNat_lt; omega
theorem fw_ (c : UInt8) : (0 : Int) ≤ c.toNat := by omega
theorem ec_ {a b : UInt8} (h : (a.toNat : Int) = b.toNat) : a = b := UInt8.toNat_inj.1 (by omega)
theorem mo {a b : Bool} (h : a = b) : Ending.returned (.bool a) = .returned (.bool b) := by rw [h]
theorem Nq {k : IntKind} {a b : Int} (h : a = b) : Ending.returned (.int k a) = .returned (.int k b) := by rw [h]
theorem fc_ {s : ByteArray} {l : List UInt8} (h : s.data.toList = l) : Ending.returned (.string s) = .returned (.string ⟨l.toArray⟩) := by subst h; rfl
def Av (w : World) (g : Nat) (e : TypeId) (l : List UInt8) : Prop :=
 ∃ (C : Array Value) (fr : Nat × Nat), w.heap[g]? = some (.cells C e fr) ∧ l.length ≤ C.size ∧ (∀ j, j < l.length → C[j]? = some (.int .u8 (l.getD j 0).toNat)) ∧ (fr = (0, 0) ∨ l.length ≤ fr.1)
theorem Av.cell {w : World} {g : Nat} {e : TypeId} {l : List UInt8} (h : Av w g e l) (j : Nat) (hj : j < l.length) : w.cell? ⟨g, j, none⟩ = some (.int .u8 (l.getD j 0).toNat) := by
 obtain ⟨C, fr, hg, hs, hc, _⟩ := h;simp only [World.cell?, hg];simpa using hc j hj
theorem Av.free {w : World} {g : Nat} {e : TypeId} {l : List UInt8} (h : Av w g e l) (j : Nat) (hj : j < l.length) : w.frozen? ⟨g, j, none⟩ = false := by
 obtain ⟨C, fr, hg, hs, hc, hf⟩ := h;simp only [World.frozen?, hg];rcases hf with rfl | hf
 ·simp
 have : ¬ fr.1 ≤ j := by omega
 simp [this]
theorem Av.set {w : World} {g : Nat} {e : TypeId} {l : List UInt8} (h : Av w g e l) (j : Nat) (hj : j < l.length) (c : UInt8) (v : Value) (hv : v = .int .u8 (c.toNat : Int)) : Av (w.setCell ⟨g, j, none⟩ v) g e (l.set j c) := by
 subst hv;obtain ⟨C, fr, hg, hs, hc, hf⟩ := h;refine ⟨C.set j (.int .u8 c.toNat) (by omega), fr, ?_, by simpa using hs, ?_, by simpa using hf⟩
 ·simp only [World.setCell, Array.getElem?_modify, hg, if_true, Option.map_some];simp [Array.setIfInBounds, show j < C.size by omega]
 intro i hi;rw [Array.getElem?_set];by_cases hij : j = i
 ·subst hij; simp [hj]
 rw [if_neg hij];have := hc i (by simpa using hi);rw [this];simp [List.getD, hij]
theorem Kv (w : World) (e : TypeId) (s : ByteArray) : Av (Lib.bytesWorld w e s) w.heap.size e s.data.toList := by
 refine ⟨_, _, Lib.bytesWorld_at_new w e s, ?_, ?_, .inr ?_⟩
 ·simp [Lib.bytesCells]
 ·intro j hj;have hj' : j < s.size := by simpa using hj
  have := Lib.bytesWorld_cell w e s j hj';simpa [World.cell?, Lib.bytesWorld_at_new] using this
 simp [Lib.bytesCells]
theorem Px (w : World) (e : TypeId) (s : ByteArray) : Below w.heap.size w (Lib.bytesWorld w e s) :=
 ⟨rfl, rfl, rfl, by rw [Lib.bytesWorld_size]; omega, fun k hk => Lib.bytesWorld_at_old w e s k hk⟩
theorem Av.back {P : Program} {w : World} {g : Nat} {e : TypeId} {l : List UInt8} (h : Av w g e l) (src dst : TypeId) (n cap : Nat) (hs : P.underlying src = some (.slice e)) (he : P.underlying e = some (.int .u8)) (hd : P.underlying dst = some .string) (hn : n = l.length) :
  (convert src dst (.slice (some ⟨g, 0, none⟩) n cap)).run P w = .ok (.string ⟨l.toArray⟩) w := by
 subst hn;exact run_convert_bytes_back w src dst e ⟨g, 0, none⟩ cap l hs he hd (fun j hj => by
  have := h.cell j hj;rw [Addr.add_lit, Nat.zero_add, this];simp [List.getD, hj])
theorem Ki {P : Program} (src dst e : TypeId) (hs : P.underlying src = some (.slice e)) (he : P.underlying e = some (.int .u8)) (hd : P.underlying dst = some .string) (w : World) (n : Int) :
  (convert src dst (.slice (some ⟨w.heap.size, 0, none⟩) 1 1)).run P (w.alloc (.cells #[.int .u8 n] e)) = .ok (.string ⟨#[UInt8.ofNat n.toNat]⟩) (w.alloc (.cells #[.int .u8 n] e)) := by
 rw [run_convert_bytes_string _ src dst e _ 1 1 hs he hd];have hl := run_loadCells_list (P := P) (w.alloc (.cells #[.int .u8 n] e)) ⟨w.heap.size, 0, none⟩ [.int .u8 n] (fun j v hj => by
  match j, hj with
  | 0, hj => simp at hj; subst hj; simp [Addr.add])
 have := run_bytesToString (P := P) (w.alloc (.cells #[.int .u8 n] e)) ⟨w.heap.size, 0, none⟩ 1 1 [n] (by simpa using hl);rw [this];rfl
def sj (w : World) (B : Nat) (e : TypeId) (v : Value) (l : List UInt8) : Prop := w.ownsRow B e 1 v l.length (Lib.byteCells l)
theorem sj.nil (w : World) (B : Nat) (e : TypeId) : sj w B e (.slice none 0 0) [] := World.ownsRow_nil _ _ _ _
theorem sj.alloc {w : World} {B : Nat} {e : TypeId} {v : Value} {l : List UInt8} (h : sj w B e v l) (o : Obj) : sj (w.alloc o) B e v l := World.ownsRow.alloc h o
theorem sj.len {w : World} {B : Nat} {e : TypeId} {v : Value} {l : List UInt8} (h : sj w B e v l) : ∃ a c, v = .slice a l.length c := by
 rcases h.2 with ⟨rfl, hn⟩ | ⟨g, cap, cur, rfl, _⟩
 ·exact ⟨none, 0, by rw [hn]⟩
 exact ⟨_, _, rfl⟩
theorem sj.kept {w w' : World} {B : Nat} {e : TypeId} {v : Value} {l : List UInt8} {row : Option Nat} (h : sj w B e v l) (hg : w.grownBy w' row) (hne : v.ownBlock = none ∨ v.ownBlock ≠ row) : sj w' B e v l := World.ownsRow.kept h hg hne
theorem sj.below {w w' : World} {B : Nat} {e : TypeId} {v : Value} {l : List UInt8} (h : sj w B e v l) (hb : Below w.heap.size w w') : sj w' B e v l :=
 World.ownsRow.kept (row := none) h ⟨hb.os, hb.tape, hb.output, hb.size, fun k hk _ => hb.block k hk⟩ (by cases hv : v.ownBlock <;> simp)
theorem sj.back {P : Program} {w : World} {B : Nat} {e : TypeId} {v : Value} {l : List UInt8} (h : sj w B e v l) (src dst : TypeId) (hs : P.underlying src = some (.slice e)) (he : P.underlying e = some (.int .u8)) (hd : P.underlying dst = some .string) :
  (convert src dst v).run P w = .ok (.string ⟨l.toArray⟩) w := by
 rcases h.2 with ⟨rfl, hn⟩ | ⟨g, cap, cur, rfl, hB, hg, hle, hm, hs', htk⟩
 ·have : l = [] := List.eq_nil_of_length_eq_zero hn;subst this;rw [run_convert_bytes_string w src dst e none 0 0 hs he hd];simp [Conv.bytesToString];rfl
 exact run_convert_bytes_back w src dst e ⟨g, 0, none⟩ cap l hs he hd (fun j hj => by
  have hc := World.ownsRow.cells h (g := g) rfl j (.int .u8 l[j].toNat) (by simp [Lib.byteCells, hj]);exact hc)
theorem sj.one (w : World) (e : TypeId) (n : Int) (c : UInt8) (hn : n = c.toNat) : sj (w.alloc (.cells #[.int .u8 n] e)) w.heap.size e (.slice (some ⟨w.heap.size, 0, none⟩) 1 1) [c] := by
 subst hn;exact ⟨rfl, .inr ⟨w.heap.size, 1, _, rfl, Nat.le_refl _, heap_alloc_new w _, Nat.le_refl _, by unfold maxLen; omega, rfl, rfl⟩⟩
theorem sj.lt {w : World} {B : Nat} {e : TypeId} {v : Value} {l : List UInt8} (h : sj w B e v l) : ∀ k, v.ownBlock = some k → B ≤ k ∧ k < w.heap.size := World.ownsRow.lt h
end
section
open Go.RowKit
def Rd (w : World) (v : Value) (n : Nat) (cs : List Value) : Prop := ∃ ao cap, v = .slice ao n cap ∧ (n = 0 ∨ ∃ b o, ao = some ⟨b, o, none⟩ ∧ b < w.heap.size ∧ n ≤ cap ∧ ∀ i u, cs[i]? = some u → w.cell? ⟨b, o + i, none⟩ = some u)
theorem Rd.below {w w' : World} {v : Value} {n : Nat} {cs : List Value} (h : Rd w v n cs) (hb : Below w.heap.size w w') : Rd w' v n cs := by
 obtain ⟨ao, cap, hv, h | ⟨b, o, ha, hlt, hle, hc⟩⟩ := h
 ·exact ⟨ao, cap, hv, .inl h⟩
 exact ⟨ao, cap, hv, .inr ⟨b, o, ha, Nat.lt_of_lt_of_le hlt hb.size, hle, fun i u hu => (hb.cell (p := ⟨b, o + i, none⟩) hlt).trans (hc i u hu)⟩⟩
theorem Rd.heap {w w' : World} {v : Value} {n : Nat} {cs : List Value} (h : Rd w v n cs) (hh : w'.heap = w.heap) : Rd w' v n cs := by
 obtain ⟨ao, cap, hv, h | ⟨b, o, ha, hlt, hle, hc⟩⟩ := h
 ·exact ⟨ao, cap, hv, .inl h⟩
 exact ⟨ao, cap, hv, .inr ⟨b, o, ha, by rw [hh]; exact hlt, hle, fun i u hu => by have := hc i u hu; simp only [World.cell?, hh] at this ⊢; exact this⟩⟩
theorem Rd.Lg {w : World} {B k : Nat} {e : TypeId} {v : Value} {n : Nat} {cs : List Value} (h : w.ownsRow B e k v n cs) : Rd w v n cs := by
 rcases h.2 with ⟨rfl, rfl⟩ | ⟨g, cap, cur, rfl, hB, hg, hle, _⟩
 ·exact ⟨none, 0, rfl, .inl rfl⟩
 exact ⟨_, cap, rfl, .inr ⟨g, 0, rfl, (Array.getElem?_eq_some_iff.1 hg).1, hle, fun i u hu => by have := World.ownsRow.cells h (g := g) rfl i u hu; simpa [Addr.add_lit] using this⟩⟩
def RdB (B : Nat) (w : World) (v : Value) (n : Nat) (cs : List Value) : Prop := ∃ ao cap, v = .slice ao n cap ∧ (n = 0 ∨ ∃ b o, ao = some ⟨b, o, none⟩ ∧ b < B ∧ n ≤ cap ∧ ∀ i u, cs[i]? = some u → w.cell? ⟨b, o + i, none⟩ = some u)
theorem Rd.at_ {w : World} {v : Value} {n : Nat} {cs : List Value} (h : Rd w v n cs) : RdB w.heap.size w v n cs := h
theorem RdB.later {B : Nat} {w w' : World} {v : Value} {n : Nat} {cs : List Value} (h : RdB B w v n cs) (hb : Below B w w') : RdB B w' v n cs := by
 obtain ⟨ao, cap, hv, h | ⟨b, o, ha, hlt, hle, hc⟩⟩ := h
 ·exact ⟨ao, cap, hv, .inl h⟩
 exact ⟨ao, cap, hv, .inr ⟨b, o, ha, hlt, hle, fun i u hu => (hb.cell (p := ⟨b, o + i, none⟩) hlt).trans (hc i u hu)⟩⟩
theorem RdB.len {B : Nat} {w : World} {v : Value} {n : Nat} {cs : List Value} (h : RdB B w v n cs) : ∃ ao cap, v = .slice ao n cap := by
 obtain ⟨ao, cap, hv, _⟩ := h;exact ⟨ao, cap, hv⟩
theorem RdB.Bz {B : Nat} {w : World} {ao : Option Addr} {cap n : Nat} {cs : List Value} (h : RdB B w (.slice ao n cap) n cs) (hn : 0 < n) : ∃ b o, ao = some ⟨b, o, none⟩ ∧ b < B ∧ ∀ i u, cs[i]? = some u → w.cell? ⟨b, o + i, none⟩ = some u := by
 obtain ⟨ao', cap', hv, h | h⟩ := h
 ·omega
 cases hv;obtain ⟨b, o, h1, h2, _, h3⟩ := h;exact ⟨b, o, h1, h2, h3⟩
theorem Rd.Bz {w : World} {ao : Option Addr} {cap n : Nat} {cs : List Value} (h : Rd w (.slice ao n cap) n cs) (hn : 0 < n) : ∃ b o, ao = some ⟨b, o, none⟩ ∧ b < w.heap.size ∧ ∀ i u, cs[i]? = some u → w.cell? ⟨b, o + i, none⟩ = some u := RdB.Bz (B := w.heap.size) h hn
theorem Gi {P : Program} {w : World} (base : Nat) (t ty e : TypeId) (i : TypeInfo) (size : Nat) (ht : P.underlying t = some (.slice e)) (hi : P.info? e = some i)
  (v : Value) (n : Nat) (xs : List Value) (hown : w.ownsRow base e size v n xs) (ao : Option Addr) (c : Nat) :
  (Builtin.append_ #[t, t] ty #[v, .slice ao 0 c]).run P w = .ok v w := by
 rcases hown.2 with ⟨rfl, rfl⟩ | ⟨g, cap, cur, rfl, _, _, hnc, _⟩
 ·cases ao <;> simp [Builtin.append_, run_underlying ht, sizeOf, typeInfo, hi, Builtin.lenOf, Builtin.firstCells, loadCells, loadCellsFrom]
 cases ao <;> simp [Builtin.append_, run_underlying ht, sizeOf, typeInfo, hi, Builtin.lenOf, Builtin.firstCells, hnc, storeCells, loadCells, loadCellsFrom]
theorem J_ {P : Program} {w : World} {o : Oper} {a : Act} {K : Act → World → Prop} {Q : Exit → Act → World → Prop} (s x : Operand) (t : TypeId)
  (ho : o.op = .call { callee := .builtin .append, args := #[s, x], argTypes := #[t, t] }) (B : Nat) (e : TypeId) (z : Value) (size bytes : Nat) (ht : P.underlying t = some (.slice e)) (hi : (P.info? e).map (fun i => (i.zero, i.size, i.bytes)) = some (some z, size, bytes)) (hzs : z.cells.size = size) (hsz : 0 < size)
  (v v2 : Value) (n m : Nat) (xs news : List Value) (hs : a.eval s = v) (hx : a.eval x = v2) (hown : w.ownsRow B e size v n xs) (h2 : Rd w v2 m news) (hl : news.length = m * size) (h1 : ∀ u ∈ news, u.oneCell' = true) (h63 : n + m ≤ maxLen) (hbytes : (n + m) * bytes ≤ 140737488355328) (hbase : B ≤ w.heap.size)
  (h : ∀ v' w', w'.ownsRow B e size v' (n + m) (xs ++ news) → w.grownBy w' v.ownBlock → (∀ g, v'.ownBlock = some g → v.ownBlock = some g ∨ w.heap.size ≤ g) → K (a.put o.dst v') w') : Oper.wp P o a w K Q := by
 obtain ⟨i, hi0, hz, hz1, hz2⟩ := info_parts hi;obtain ⟨ao, cap, rfl, h3⟩ := h2;rcases Nat.eq_zero_or_pos m with rfl | hm
 ·have hn : news = [] := List.eq_nil_of_length_eq_zero (by simpa using hl);subst hn;have hrun := Gi (P := P) (w := w) B t o.type e i size ht hi0 v n xs hown ao cap;unfold Oper.wp;simp [execOp, ho, resolve, invoke, builtin, hs, hx, hrun, Result.andThen];exact h _ _ (by simpa using hown) ⟨rfl, rfl, rfl, Nat.le_refl _, fun _ _ _ => rfl⟩ (fun g hg => .inl hg)
 rcases h3 with h3 | ⟨b, off, rfl, hlt, _, hc⟩
 ·omega
 refine wp_append_lies w s x t ho B e i z size bytes ht hi0 hz hz1 hz2 hzs hsz v n xs hs hown ⟨b, off, none⟩ m cap news hx hl (fun j u hu => by rw [Addr.add_lit]; exact hc j u hu) h1 hm h63 hbytes hbase _ rfl ?_;intro g1 cap1 w' hown1 hg hat hlt1;refine h _ _ hown1 hg (fun k hk => ?_);have : g1 = k := by simpa [Value.ownBlock] using hk
 subst this;rcases hat with h4 | h4
 ·exact .inl h4
 right; omega
theorem Ch {P : Program} {w : World} {ops : Array Oper} {rest : List Oper} {o : Oper} {a : Act} {Q : Exit → Act → World → Prop} (hgd : o.guard = none) (s x : Operand) (t : TypeId)
  (ho : o.op = .call { callee := .builtin .append, args := #[s, x], argTypes := #[t, t] }) (B : Nat) (e : TypeId) (z : Value) (size bytes : Nat) (ht : P.underlying t = some (.slice e)) (hi : (P.info? e).map (fun i => (i.zero, i.size, i.bytes)) = some (some z, size, bytes)) (hzs : z.cells.size = size) (hsz : 0 < size)
  (v v2 : Value) (n m : Nat) (xs news : List Value) (hs : a.eval s = v) (hx : a.eval x = v2) (hown : w.ownsRow B e size v n xs) (h2 : Rd w v2 m news) (hl : news.length = m * size) (h1 : ∀ u ∈ news, u.oneCell' = true) (h63 : n + m ≤ maxLen) (hbytes : (n + m) * bytes ≤ 140737488355328) (hbase : B ≤ w.heap.size)
  (h : ∀ v' w', w'.ownsRow B e size v' (n + m) (xs ++ news) → w.grownBy w' v.ownBlock → (∀ g, v'.ownBlock = some g → v.ownBlock = some g ∨ w.heap.size ≤ g) → wpList P ops Q rest (a.put o.dst v') w') : wpList P ops Q (o :: rest) a w :=
 wpList_plain hgd fun _ hK => J_ s x t ho B e z size bytes ht hi hzs hsz v v2 n m xs news hs hx hown h2 hl h1 h63 hbytes hbase fun v' w' h2 h3 h4 => hK _ _ (h v' w' h2 h3 h4)
theorem qw {B : Nat} {a w : World} (h : Below B a w) (n : Nat) : Below B a (w.drewN n) := ⟨h.os, h.tape, h.output, h.size, h.block⟩
def ik_ (ss : List ByteArray) : List UInt8 := ss.flatMap fun s => s.data.toList
def strCells (ss : List ByteArray) : List Value := ss.map Value.string
end
section
open Go.RowKit
abbrev Je := Nat → Prop
structure Th where
 holds : Je → World → Prop
 lt : ∀ F W, holds F W → ∀ k, F k → k < W.heap.size
 kept : ∀ F W W', holds F W → (∀ k, F k → W'.heap[k]? = W.heap[k]?) → holds F W'
structure Ej (F : Je) (W : World) (F' : Je) (W' : World) : Prop where
 os : W'.os = W.os
 tape : W'.tape = W.tape
 output : W'.output = W.output
 size : W.heap.size ≤ W'.heap.size
 block : ∀ k, k < W.heap.size → ¬ F k → W'.heap[k]? = W.heap[k]?
 foot : ∀ k, F' k → F k ∨ W.heap.size ≤ k
theorem Ej.trans {F F' F2 : Je} {W W' W2 : World} (h : Ej F W F' W') (k : Ej F' W' F2 W2) : Ej F W F2 W2 :=
 ⟨k.os.trans h.os, k.tape.trans h.tape, k.output.trans h.output, Nat.le_trans h.size k.size, fun x hx h1 => (k.block x (Nat.lt_of_lt_of_le hx h.size) (fun h2 => by
  rcases h.foot x h2 with h3 | h3
  ·exact h1 h3
  ·omega)).trans (h.block x hx h1), fun x hx => by
  rcases k.foot x hx with h1 | h1
  ·exact h.foot x h1
  exact .inr (Nat.le_trans h.size h1)⟩
theorem Ej.of_below {F : Je} {W W' : World} (h : Below W.heap.size W W') : Ej F W F W' := ⟨h.os, h.tape, h.output, h.size, fun k hk _ => h.block k hk, fun _ h => .inl h⟩
theorem Ej.sub {F F1 F' F2 : Je} {W W' : World} (h : Ej F W F' W') (h1 : ∀ k, F k → F1 k) (h2 : ∀ k, F2 k → F' k) : Ej F1 W F2 W' :=
 ⟨h.os, h.tape, h.output, h.size, fun k hk hn => h.block k hk (fun hf => hn (h1 k hf)), fun k hk => (h.foot k (h2 k hk)).imp_left (h1 k)⟩
theorem Th.below (O : Th) {F : Je} {W W' : World} (h : O.holds F W) (hb : Below W.heap.size W W') : O.holds F W' := O.kept F W W' h (fun k hk => hb.block k (O.lt F W h k hk))
abbrev Zl := List (Th × Je)
structure ib_ (B : Nat) (W : World) (P : Zl) : Prop where
 holds : ∀ x ∈ P, x.1.holds x.2 W
 low : ∀ x ∈ P, ∀ k, x.2 k → B ≤ k
 apart : P.Pairwise (fun x y => ∀ k, x.2 k → ¬ y.2 k)
def Zoo (W0 W : World) (L : List Th) : Prop := Below W0.heap.size W0 W ∧ ∃ P : Zl, P.map Prod.fst = L ∧ ib_ W0.heap.size W P
theorem Zoo.nil (W : World) : Zoo W W [] := ⟨Below.refl _ _, [], rfl, ⟨fun x hx => by simp at hx, fun x hx => by simp at hx, List.Pairwise.nil⟩⟩
theorem Zoo.below {W0 W W' : World} {L : List Th} (h : Zoo W0 W L) (hb : Below W.heap.size W W') : Zoo W0 W' L := by
 obtain ⟨h0, P, h1, h2⟩ := h;exact ⟨h0.trans (hb.mono h0.size), P, h1, ⟨fun x hx => x.1.below (h2.holds x hx) hb, h2.low, h2.apart⟩⟩
theorem Zoo.drew {W0 W : World} {L : List Th} (h : Zoo W0 W L) : Zoo W0 W.drew L := h.below ((Below.refl _ _).drew)
theorem Zoo.alloc {W0 W : World} {L : List Th} (h : Zoo W0 W L) (o : Obj) : Zoo W0 (W.alloc o) L := h.below ((Below.refl _ _).alloc (Nat.le_refl _) o)
theorem Zoo.more {W0 W W' : World} {L : List Th} (h : Zoo W0 W L) (hb : Below W.heap.size W W') (O : Th) (F : Je) (hO : O.holds F W') (hF : ∀ k, F k → W.heap.size ≤ k) : Zoo W0 W' (O :: L) := by
 obtain ⟨h0, P, h1, h2⟩ := h.below hb;obtain ⟨g0, Q, g1, g2⟩ := h;refine ⟨h0, (O, F) :: Q, by rw [List.map_cons, g1], ⟨fun x hx => ?_, fun x hx k hk => ?_, ?_⟩⟩
 ·rcases List.mem_cons.1 hx with rfl | hx
  ·exact hO
  exact x.1.below (g2.holds x hx) hb
 ·rcases List.mem_cons.1 hx with rfl | hx
  ·exact Nat.le_trans g0.size (hF k hk)
  exact g2.low x hx k hk
 refine List.pairwise_cons.2 ⟨fun y hy k hk hk2 => ?_, g2.apart⟩;have := y.1.lt _ _ (g2.holds y hy) k hk2;have := hF k hk;omega
theorem Zoo.bare {W0 W : World} {L : List Th} (h : Zoo W0 W L) (O : Th) (hO : O.holds (fun _ => False) W) : Zoo W0 W (O :: L) := h.more (Below.refl _ _) O _ hO (fun _ h => h.elim)
theorem gk_ {P : Zl} {L : List Th} (h : P.map Prod.fst = L) (i : Nat) (x : Th × Je) : (P.set i x).map Prod.fst = L.set i x.1 := by rw [List.map_set, h]
theorem gl_ {P : Zl} {L : List Th} (h : P.map Prod.fst = L) {i : Nat} {O : Th} (hi : L[i]? = some O) : ∃ F, P[i]? = some (O, F) := by
 rw [← h, List.getElem?_map] at hi;cases hp : P[i]? with
 | none => rw [hp] at hi; cases hi
 | some x => rw [hp] at hi; cases hi; exact ⟨x.2, rfl⟩
theorem Hy {P : Zl} (h : P.Pairwise (fun x y => ∀ k, x.2 k → ¬ y.2 k)) {i j : Nat} {x y : Th × Je} (hx : P[i]? = some x) (hy : P[j]? = some y) (hij : i ≠ j) : ∀ k, x.2 k → ¬ y.2 k := by
 obtain ⟨hi, rfl⟩ := List.getElem?_eq_some_iff.1 hx;obtain ⟨hj, rfl⟩ := List.getElem?_eq_some_iff.1 hy;intro k h1 h2;rcases Nat.lt_or_gt_of_ne hij with q | q
 ·exact List.pairwise_iff_getElem.1 h i j hi hj q k h1 h2
 exact List.pairwise_iff_getElem.1 h j i hj hi q k h2 h1
theorem Zoo.act {W0 W : World} {L : List Th} (h : Zoo W0 W L) (i : Nat) (O : Th) (hi : L[i]? = some O) :
  ∃ F, O.holds F W ∧ (∀ k, F k → W0.heap.size ≤ k) ∧ ∀ (O' : Th) (F' : Je) (W' : World), O'.holds F' W' → Ej F W F' W' → Zoo W0 W' (L.set i O') := by
 obtain ⟨h0, P, h1, h2⟩ := h;obtain ⟨F, hF⟩ := gl_ h1 hi;have hm := List.mem_of_getElem? hF;have hlow := h2.low _ hm;refine ⟨F, h2.holds _ hm, hlow, fun O' F' W' hO hG => ⟨⟨hG.os.trans h0.os, hG.tape.trans h0.tape, hG.output.trans h0.output, Nat.le_trans h0.size hG.size, fun k hk => (hG.block k (Nat.lt_of_lt_of_le hk h0.size) (fun hf => by have := hlow k hf; omega)).trans (h0.block k hk)⟩, P.set i (O', F'), gk_ h1 i _, ?_⟩⟩;have hil := (List.getElem?_eq_some_iff.1 hF).1;have hcase : ∀ j x, (P.set i (O', F'))[j]? = some x → (j = i ∧ x = (O', F')) ∨ (j ≠ i ∧ P[j]? = some x) := fun j x hx => by
  rw [List.getElem?_set] at hx;by_cases e : i = j
  ·subst e; rw [if_pos rfl, if_pos hil] at hx; exact .inl ⟨rfl, (Option.some.inj hx).symm⟩
  rw [if_neg e] at hx; exact .inr ⟨fun q => e q.symm, hx⟩
 refine ⟨fun x hx => ?_, fun x hx k hk => ?_, List.pairwise_iff_getElem.2 fun a b ha hb hab k hk1 hk2 => ?_⟩
 ·obtain ⟨j, hj, rfl⟩ := List.mem_iff_getElem.1 hx;rcases hcase j _ (List.getElem?_eq_getElem hj) with ⟨_, e⟩ | ⟨e, hp⟩
  ·rw [e]; exact hO
  have hh := h2.holds _ (List.mem_of_getElem? hp);exact Th.kept _ _ _ _ hh (fun k hk => hG.block k (Th.lt _ _ _ hh k hk) (fun hf => Hy h2.apart hp hF e k hk hf))
 ·obtain ⟨j, hj, rfl⟩ := List.mem_iff_getElem.1 hx;rcases hcase j _ (List.getElem?_eq_getElem hj) with ⟨_, e⟩ | ⟨e, hp⟩
  ·rw [e] at hk;rcases hG.foot k hk with q | q
   ·exact hlow k q
   exact Nat.le_trans h0.size q
  exact h2.low _ (List.mem_of_getElem? hp) k hk
 have new : ∀ (j : Nat) (y : Th × Je), P[j]? = some y → j ≠ i → F' k → ¬ y.2 k := fun j y hy hj hf hy2 => by
  rcases hG.foot k hf with q | q
  ·exact Hy h2.apart hy hF hj k hy2 q
  have := Th.lt _ _ _ (h2.holds y (List.mem_of_getElem? hy)) k hy2; omega
 rcases hcase a _ (List.getElem?_eq_getElem ha) with ⟨e1, q1⟩ | ⟨e1, q1⟩ <;> rcases hcase b _ (List.getElem?_eq_getElem hb) with ⟨e2, q2⟩ | ⟨e2, q2⟩
 ·omega
 ·rw [q1] at hk1; exact new b _ q2 e2 hk1 hk2
 ·rw [q2] at hk2; exact new a _ q1 e1 hk2 hk1
 exact Hy h2.apart q1 q2 (by omega) k hk1 hk2
theorem Zoo.get {W0 W : World} {L : List Th} (h : Zoo W0 W L) (i : Nat) (O : Th) (hi : L[i]? = some O) : ∃ F, O.holds F W ∧ ∀ k, F k → W0.heap.size ≤ k := by
 obtain ⟨F, h1, h2, _⟩ := h.act i O hi;exact ⟨F, h1, h2⟩
theorem Zoo.turn {W0 W : World} {L : List Th} (h : Zoo W0 W L) (i : Nat) (O O' : Th) (hi : L[i]? = some O) (ht : ∀ F, O.holds F W → O'.holds F W) : Zoo W0 W (L.set i O') := by
 obtain ⟨F, h1, _, h2⟩ := h.act i O hi;exact h2 O' F W (ht F h1) (Ej.of_below (Below.refl _ _))
theorem Zoo.sub {W0 W : World} {L L' : List Th} (h : Zoo W0 W L) (hs : L'.Sublist L) : Zoo W0 W L' := by
 obtain ⟨h0, P, h1, h2⟩ := h;subst h1;obtain ⟨P', hP, rfl⟩ := List.sublist_map_iff.1 hs;exact ⟨h0, P', rfl, ⟨fun x hx => h2.holds x (hP.subset hx), fun x hx => h2.low x (hP.subset hx), h2.apart.sublist hP⟩⟩
theorem Zoo.bel {W0 W : World} {L : List Th} (h : Zoo W0 W L) : Below W0.heap.size W0 W := h.1
theorem Zoo.swap {W0 W : World} {L : List Th} {a b : Th} (h : Zoo W0 W (a :: b :: L)) : Zoo W0 W (b :: a :: L) := by
 obtain ⟨h0, P, h1, h2⟩ := h;match P, h1 with
 | x :: y :: P, h1 =>
  simp only [List.map_cons, List.cons.injEq] at h1;obtain ⟨rfl, rfl, rfl⟩ := h1;have ha := h2.apart;simp only [List.pairwise_cons, List.mem_cons] at ha;refine ⟨h0, y :: x :: P, rfl, ⟨fun z hz => h2.holds z (by simp only [List.mem_cons] at hz ⊢; rcases hz with h | h | h <;> simp [h]), fun z hz => h2.low z (by simp only [List.mem_cons] at hz ⊢; rcases hz with h | h | h <;> simp [h]), ?_⟩⟩;simp only [List.pairwise_cons, List.mem_cons];refine ⟨fun z hz k hk1 hk2 => ?_, fun z hz => ha.1 z (.inr hz), ha.2.2⟩;rcases hz with rfl | hz
  ·exact ha.1 y (.inl rfl) k hk2 hk1
  exact ha.2.1 z hz k hk1 hk2
theorem Zoo.he_ {W0 W : World} {L : List Th} {a b c : Th} (h : Zoo W0 W (a :: b :: c :: L)) : Zoo W0 W (a :: c :: b :: L) := by
 obtain ⟨h0, P, h1, h2⟩ := h;rcases P with _ | ⟨x, _ | ⟨y, _ | ⟨z, P⟩⟩⟩
 ·simp at h1
 ·simp at h1
 ·simp at h1
 simp only [List.map_cons, List.cons.injEq] at h1;obtain ⟨rfl, rfl, rfl, rfl⟩ := h1;have hp : (x :: z :: y :: P).Perm (x :: y :: z :: P) := List.Perm.cons x (List.Perm.swap y z P);exact ⟨h0, x :: z :: y :: P, rfl, ⟨fun q hq => h2.holds q (hp.mem_iff.1 hq), fun q hq => h2.low q (hp.mem_iff.1 hq), hp.symm.pairwise h2.apart (fun h k h1 h2 => h k h2 h1)⟩⟩
theorem Zoo.tail {W0 W : World} {L : List Th} {a : Th} (h : Zoo W0 W (a :: L)) : Zoo W0 W L := h.sub (List.sublist_cons_self _ _)
theorem Zoo.cell {W0 W : World} {L : List Th} (h : Zoo W0 W L) {b j : Nat} {v : Value} (hb : b < W0.heap.size) (hc : W0.cell? ⟨b, j, none⟩ = some v) : W.cell? ⟨b, j, none⟩ = some v := (h.bel.cell (p := ⟨b, j, none⟩) hb).trans hc
def df (B : Nat) (C : Array Value) (t : TypeId) : Th := ⟨fun F W => W.heap[B]? = some (.cells C t (0, 0)) ∧ ∀ k, F k ↔ k = B, fun F W h k hk => by
  rw [(h.2 k).1 hk]; exact (Array.getElem?_eq_some_iff.1 h.1).1, fun F W W' h hk => ⟨(hk B ((h.2 B).2 rfl)).trans h.1, h.2⟩⟩
theorem Zoo.box {W0 W : World} {L : List Th} {B : Nat} {C : Array Value} {t : TypeId} (h : Zoo W0 W L) (i : Nat) (hi : L[i]? = some (df B C t)) : W.heap[B]? = some (.cells C t (0, 0)) ∧ W0.heap.size ≤ B := by
 obtain ⟨F, h1, h2⟩ := h.get i _ hi;exact ⟨h1.1, h2 B ((h1.2 B).2 rfl)⟩
theorem Zoo.dz {W0 W : World} {L : List Th} (h : Zoo W0 W L) (C : Array Value) (t : TypeId) : Zoo W0 (W.alloc (.cells C t)) (df W.heap.size C t :: L) :=
 h.more ((Below.refl _ _).alloc (Nat.le_refl _) _) _ (fun k => k = W.heap.size) ⟨heap_alloc_new W _, fun _ => Iff.rfl⟩ (fun _ hk => Nat.le_of_eq hk.symm)
theorem bc_ {W : World} {B : Nat} {C : Array Value} {t : TypeId} (h : W.heap[B]? = some (.cells C t (0, 0))) (j : Nat) : W.cell? ⟨B, j, none⟩ = C[j]? := by simp [World.cell?, h]
theorem bf_ {W : World} {B : Nat} {C : Array Value} {t : TypeId} (h : W.heap[B]? = some (.cells C t (0, 0))) (j : Nat) : W.frozen? ⟨B, j, none⟩ = false := by simp [World.frozen?, h]
end
section
open Go.RowKit
section
variable {P : Program} {ops : Array Oper} {Q : Exit → Act → World → Prop} {md : Region.Mode} {S : World → Prop} {T : Array Bool → Act → World → Prop}
def chB (md : Region.Mode) (ops : Array Oper) (n : Nat) : Bool :=
 (List.range ops.size).all fun t => decide (t ≤ n) || (List.range t).any fun t' => decide (n ≤ t') && Region.waitsFor md ops t t'
theorem Ht {n : Nat} {listed : Array Bool} (hs : Region.sinkB md ops n = true) (hc : chB md ops n = true) (inv : HeadInv md ops n listed) :
  ∀ (d i : Nat), n - i = d → i < n → listed.getD i true = false → ∀ t, n ≤ t → t ∉ Region.ready md ops listed := by
 intro d;induction d using Nat.strongRecOn with
 | _ d ih =>
  intro i hd hi hun t ht hr;obtain ⟨_, ot, hot, hall⟩ := mem_ready.1 hr;have htlt : t < ops.size := (Array.getElem?_eq_some_iff.1 hot).1;by_cases htn : t = n
  ·subst htn;have h1 := List.all_eq_true.1 hs i (List.mem_range.2 hi);obtain ⟨j, hj, hj2⟩ := List.any_eq_true.1 h1;simp only [Bool.and_eq_true, decide_eq_true_eq] at hj2;obtain ⟨oj, hoj, e, he, hb, hon⟩ := Region.waitsFor_spec hj2.2;have hjle : j ≤ t := (by have := List.mem_range.1 hj; omega);by_cases hjt : j = t
   ·subst hjt;have : oj = ot := Option.some.inj (hoj.symm.trans hot);subst this;have h2 := hall e he hb;rw [hon, getD_both hun] at h2;cases h2
   cases hl : listed.getD j false with
   | true =>
    have h2 := inv.closed j oj hoj hl e he hb;rw [hon, getD_both hun] at h2;cases h2
   | false =>
    have hjs : j < listed.size := (by rw [inv.size]; omega);exact ih (t - j) (by omega) j rfl (by omega) (getD_in hjs hl) t (Nat.le_refl _) hr
  have h1 := List.all_eq_true.1 hc t (List.mem_range.2 htlt);simp only [Bool.or_eq_true, decide_eq_true_eq] at h1;rcases h1 with h1 | h1
  ·omega
  obtain ⟨t', ht', h2⟩ := List.any_eq_true.1 h1;have ht2 := List.mem_range.1 ht';simp only [Bool.and_eq_true, decide_eq_true_eq] at h2;obtain ⟨o', ho', e, he, hb, hon⟩ := Region.waitsFor_spec h2.2;have : o' = ot := Option.some.inj (ho'.symm.trans hot);subst this;have h3 := hall e he hb;rw [hon, getD_both (inv.tail t' h2.1 (by omega))] at h3;cases h3
def O_ (md : Region.Mode) (ops : Array Oper) (n : Nat) (listed : Array Bool) : Bool := (Region.ready md ops listed).all fun j => decide (n ≤ j)
theorem Oz {n : Nat} {listed : Array Bool} (h : O_ md ops n listed = true) : ∀ j ∈ Region.ready md ops listed, n ≤ j := fun j hj => by simpa using List.all_eq_true.1 h j hj
def cf_ (P : Program) (md : Region.Mode) (ops : Array Oper) (Q : Exit → Act → World → Prop) (S : World → Prop) (n : Nat) (T : Array Bool → Act → World → Prop) : Nat → Array Bool → Act → World → Prop
 | 0, listed, a, w => O_ md ops n listed = true ∧ T listed a w
 | f + 1, listed, a, w => Region.ready md ops listed ≠ [] ∧ ∀ i ∈ Region.ready md ops listed, i < n ∧ wpOp P ops Q i (fun a' w' => S w' ∧ cf_ P md ops Q S n T f (listed.setIfInBounds i true) a' w') a w
theorem Me {n g : Nat} (hT : ∀ listed a w, T listed a w → wpAny P md ops Q g listed a w) :
  ∀ (f : Nat) (listed : Array Bool) (a : Act) (w : World), cf_ P md ops Q S n T f listed a w → wpAny P md ops Q (f + g) listed a w
 | 0, listed, a, w, h => by rw [Nat.zero_add]; exact hT _ _ _ h.2
 | f + 1, listed, a, w, h => by
  rw [show f + 1 + g = (f + g) + 1 by omega];exact ⟨fun h0 => absurd h0 h.1, fun i hi => wpOp_mono (fun a' w' h' => Me hT f _ a' w' h'.2) (h.2 i hi).2⟩
theorem Wv {n i : Nat} {oi : Oper} {v : Value} (hi : ops[i]? = some oi) (hsel : ∀ (j : Nat) (o : Oper) cs b, ops[j]? = some o → o.op ≠ .select cs b)
  (hQ : ∀ c a w, Q (.panic c) (a.put oi.dst v) w → Q (.panic c) a w)
  (hs : Region.sinkB md ops n = true) (hc : chB md ops n = true) (hin : i < n) :
  ∀ (f : Nat) (listed : Array Bool) (a : Act) (w : World), HeadInv md ops n listed →
   (∀ j oj, ops[j]? = some oj → j ≠ i → listed.getD j true = false → (∀ e ∈ oj.after, Region.binds md e = true → e.on ≠ i) → oi.apart ops oj = true) →
   i ∈ Region.ready md ops listed → YieldsIf P ops S oi v a → S w →
   cf_ P md ops Q S n T f (listed.setIfInBounds i true) (a.put oi.dst v) w → cf_ P md ops Q S n T (f + 1) listed a w := by
 intro f;induction f with
 | zero =>
  intro listed a w inv _ hr hy hS H;have hun := (mem_ready.1 hr).1;refine ⟨fun h => (by rw [h] at hr; cases hr), fun j hj => ?_⟩;have hjn : j < n := by
   rcases Nat.lt_or_ge j n with h | h
   ·exact h
   exact absurd hj (Ht hs hc inv _ i rfl hin hun j h)
  refine ⟨hjn, ?_⟩;by_cases hji : j = i
  ·subst hji; exact hy.wpOp hi hS ⟨hS, H⟩
  have := Oz H.1 j (ready_mono hj hji);omega
 | succ f ih =>
  intro listed a w inv hfree hr hy hS H;have hun := (mem_ready.1 hr).1;refine ⟨fun h => (by rw [h] at hr; cases hr), fun j hj => ?_⟩;have hjn : j < n := by
   rcases Nat.lt_or_ge j n with h | h
   ·exact h
   exact absurd hj (Ht hs hc inv _ i rfl hin hun j h)
  refine ⟨hjn, ?_⟩;by_cases hji : j = i
  ·subst hji; exact hy.wpOp hi hS ⟨hS, H⟩
  have h1 := (H.2 j (ready_mono hj hji)).2;obtain ⟨hjun, oj, hoj, hall⟩ := mem_ready.1 hj;have hnot : ∀ e ∈ oj.after, Region.binds md e = true → e.on ≠ i := fun e he hb heq => by
   have h1 := hall e he hb;rw [heq, getD_both hun] at h1;cases h1
  have h2 := wpOp_putIf hoj (hfree j oj hoj hji hjun hnot) (fun cs b => hsel i oi cs b hi) (fun cs b => hsel j oj cs b hoj) hQ hy h1;have hfree' : ∀ k ok, ops[k]? = some ok → k ≠ i → (listed.setIfInBounds j true).getD k true = false →
    (∀ e ∈ ok.after, Region.binds md e = true → e.on ≠ i) → oi.apart ops ok = true := fun k ok hk hki hun hno => by
   refine hfree k ok hk hki ?_ hno;by_cases hjk : j = k
   ·subst hjk; exact hjun
   rw [getD_set_ne true hjk] at hun; exact hun
  refine wpOp_mono (fun a' w' h3 => ⟨h3.2.1, ih (listed.setIfInBounds j true) a' w' (inv.set hj hjn) hfree' (ready_mono hr (Ne.symm hji)) h3.1 h3.2.1 ?_⟩) h2;rw [Array.setIfInBounds_comm _ _ hji];exact h3.2.2
def Hd (P : Program) (ops : Array Oper) (Q : Exit → Act → World → Prop) (S : World → Prop) (n : Nat) (T : Array Bool → Act → World → Prop) (f : Nat) (listed : Array Bool) (a : Act) (w : World) : Prop :=
 HeadInv .any ops n listed → cf_ P .any ops Q S n T f listed a w
structure gx_ (ops : Array Oper) (n : Nat) : Prop where
 sel : Region.noSelect ops = true
 sink : Region.sinkB .any ops n = true
 chain : chB .any ops n = true
 lt : n < ops.size
theorem Hd.take {n i f : Nat} {oi : Oper} {v : Value} {listed : Array Bool} {a : Act} {w : World} (hok : gx_ ops n) (hi : ops[i]? = some oi) (hb : (decide (i < n) && ((Region.ready .any ops listed).contains i && Region.free .any ops listed i)) = true)
  (hQ : ∀ c a w, Q (.panic c) (a.put oi.dst v) w → Q (.panic c) a w) (hy : YieldsIf P ops S oi v a) (hS : S w)
  (h : Hd P ops Q S n T f (listed.setIfInBounds i true) (a.put oi.dst v) w) : Hd P ops Q S n T (f + 1) listed a w := fun inv => by
 simp only [Bool.and_eq_true, decide_eq_true_eq] at hb;have hr : i ∈ Region.ready .any ops listed := by simpa using hb.2.1
 exact Wv hi (Region.noSelect_spec hok.sel) hQ hok.sink hok.chain hb.1 f listed a w inv (Region.free_spec hi hb.2.2) hr hy hS (h (inv.set hr hb.1))
theorem Hd.one {n i f : Nat} {oi : Oper} {listed : Array Bool} {a : Act} {w : World} (hi : ops[i]? = some oi) (hb : (decide (i < n) && (Region.ready .any ops listed == [i])) = true)
  (h : ∀ K' : Act → World → Prop, Shut (∀ a w, S w → Hd P ops Q S n T f (listed.setIfInBounds i true) a w → K' a w) → if Region.wanted oi (yielded ops a.tmps) = true then Oper.wp P oi a w K' Q else K' (a.put oi.dst undef) w) : Hd P ops Q S n T (f + 1) listed a w := fun inv => by
 simp only [Bool.and_eq_true, decide_eq_true_eq, beq_iff_eq] at hb;have hr : i ∈ Region.ready .any ops listed := by rw [hb.2]; simp
 refine ⟨by rw [hb.2]; simp, fun j hj => ?_⟩;rw [hb.2] at hj;obtain rfl : j = i := by simpa using hj
 exact ⟨hb.1, wpOp_step hi (fun K' hK => h K' (fun a w hS hW => hK a w ⟨hS, hW (inv.set hr hb.1)⟩))⟩
theorem Hd.two {n i k f : Nat} {oi ok : Oper} {listed : Array Bool} {a : Act} {w : World} (hi : ops[i]? = some oi) (hk : ops[k]? = some ok) (hb : (decide (i < n) && (decide (k < n) && (Region.ready .any ops listed == [i, k]))) = true)
  (h : ∀ K' : Act → World → Prop, Shut (∀ a w, S w → Hd P ops Q S n T f (listed.setIfInBounds i true) a w → K' a w) → if Region.wanted oi (yielded ops a.tmps) = true then Oper.wp P oi a w K' Q else K' (a.put oi.dst undef) w)
  (h2 : ∀ K' : Act → World → Prop, Shut (∀ a w, S w → Hd P ops Q S n T f (listed.setIfInBounds k true) a w → K' a w) → if Region.wanted ok (yielded ops a.tmps) = true then Oper.wp P ok a w K' Q else K' (a.put ok.dst undef) w) : Hd P ops Q S n T (f + 1) listed a w := fun inv => by
 simp only [Bool.and_eq_true, decide_eq_true_eq, beq_iff_eq] at hb;have hri : i ∈ Region.ready .any ops listed := by rw [hb.2.2]; simp
 have hrk : k ∈ Region.ready .any ops listed := by rw [hb.2.2]; simp
 refine ⟨by rw [hb.2.2]; simp, fun j hj => ?_⟩;rw [hb.2.2] at hj;by_cases e : j = i
 ·subst e;exact ⟨hb.1, wpOp_step hi (fun K' hK => h K' (fun a w hS hW => hK a w ⟨hS, hW (inv.set hri hb.1)⟩))⟩
 obtain rfl : j = k := by
  simp only [List.mem_cons, List.not_mem_nil, or_false] at hj;rcases hj with h | h
  ·exact absurd h e
  exact h
 exact ⟨hb.2.1, wpOp_step hk (fun K' hK => h2 K' (fun a w hS hW => hK a w ⟨hS, hW (inv.set hrk hb.2.1)⟩))⟩
theorem Hd.fin {n : Nat} {listed : Array Bool} {a : Act} {w : World} (hb : O_ .any ops n listed = true) (h : HeadInv .any ops n listed → T listed a w) : Hd P ops Q S n T 0 listed a w := fun inv => ⟨hb, h inv⟩
def Wp (P : Program) (ops : Array Oper) (Q : Exit → Act → World → Prop) (n g : Nat) (l : List Oper) (listed : Array Bool) (a : Act) (w : World) : Prop := Region.seqB .any ops g n listed = true ∧ wpList P ops Q l a w
theorem Hd.done {n g : Nat} {l : List Oper} {listed : Array Bool} {a : Act} {w : World} (hb : (O_ .any ops n listed && Region.seqB .any ops g n listed) = true) (h : wpList P ops Q l a w) : Hd P ops Q S n (Wp P ops Q n g l) 0 listed a w := fun _ => by
 rw [Bool.and_eq_true] at hb;exact ⟨hb.1, hb.2, h⟩
end
theorem Rj (l : List Oper) (n : Nat) : HeadInv .any l.toArray n (Array.replicate l.toArray.size false) :=
 ⟨by simp, fun j oj _ hl => (by rw [getD_replicate_false] at hl; cases hl), fun t _ ht => getD_in (by simpa using ht) (getD_replicate_false _ _)⟩
theorem Rb {P : Program} {Q : Exit → Act → World → Prop} {l : List Oper} {n g : Nat} (hg : n + g = l.length) : ∀ listed a w, Wp P l.toArray Q n g (l.drop n) listed a w → wpAny P .any l.toArray Q g listed a w := fun listed a w h => by
 have hdl : (l.drop n).length = g := by rw [List.length_drop]; omega
 have := wpAny_of_seq (md := .any) (Q' := Q) (l.drop n) n listed a w (fun j => by simp [List.getElem?_drop]) (by rw [hdl]; exact h.1) h.2;rwa [hdl] at this
theorem ii_ {P : Program} {Q : Exit → Act → World → Prop} {id : Nat} {a : Act} {w : World} {l : List Oper} (S : World → Prop) (n g : Nat) (hm : P.follows .mixedOrders = true) (hg : n + g = l.length) (hok : gx_ l.toArray n) (hS : S w.drew)
  (h : gx_ l.toArray n → S w.drew → Hd P l.toArray Q S n (Wp P l.toArray Q n g (l.drop n)) n (Array.replicate l.toArray.size false) a w.drew) : (Code.region id l.toArray true).wp P Q a w := by
 refine wp_region_any hm ?_;have := Me (Q := Q) (S := S) (g := g) (n := n) (Rb hg) n _ _ _ (h hok hS (Rj l n));rw [hg] at this;simpa using this
end
section
open Go.RowKit
theorem dz_ : (∀ {α : Type} {a : α} {l : List α} {n : Nat}, (a :: l).drop (n + 1) = l.drop n) ∧ ∀ {α : Type} {l : List α}, l.drop 0 = l := ⟨rfl, rfl⟩
theorem nrm_ : (∀ {α : Type} {xs : List α} {i : Nat} (h : i < xs.toArray.size), xs.toArray[i]'h = xs[i]'(by simpa using h)) ∧ (∀ {α : Type} {a : α} {as : List α} {i : Nat} (h : i + 1 < (a :: as).length), (a :: as)[i + 1]'h = as[i]'(by simpa using h)) ∧ (∀ {α : Type} {a : α} {as : List α} (h : 0 < (a :: as).length), (a :: as)[0]'h = a) ∧ (∀ {α : Type} {l : List α} {i : Nat} {a : α}, l.toArray.setIfInBounds i a = (l.set i a).toArray) ∧ (∀ {α : Type} {x y : α} {xs : List α}, (x :: xs).set 0 y = y :: xs) ∧ (∀ {α : Type} {x y : α} {xs : List α} {n : Nat}, (x :: xs).set (n + 1) y = x :: xs.set n y) :=
 ⟨fun _ => List.getElem_toArray .., fun _ => List.getElem_cons_succ .., fun _ => rfl, List.setIfInBounds_toArray .., rfl, rfl⟩
section
variable {P : Program} {ops : Array Oper} {Q : Exit → Act → World → Prop} {S : World → Prop} {T : Array Bool → Act → World → Prop}
theorem Hd.tk {n f : Nat} {oi : Oper} {v : Value} {listed : Array Bool} {a a' : Act} {w : World} (hok : gx_ ops n) (i : Nat) (h : Hd P ops Q S n T f (listed.setIfInBounds i true) a' w) (hi : ops[i]? = some oi := by rfl) (hb : (decide (i < n) && ((Region.ready .any ops listed).contains i && Region.free .any ops listed i)) = true := by kernel_rfl)
  (hQ : ∀ c a w, Q (.panic c) (a.put oi.dst v) w → Q (.panic c) a w := by exact fun _ _ _ h => h) (hg : Region.wanted oi (yielded ops a.tmps) = true := by rfl) (hy : ∀ w, S w → (execOp a.eval oi).run P w = .ok (.value v) w := by (intro w s; (try dsimp only at s); (try simp only [nrm_, Act.put]); go_simp; (try with_reducible rfl))) (hS : S w := by assumption) (e : a.put oi.dst v = a' := by (try simp only [nrm_, Act.put]); exact rfl) : Hd P ops Q S n T (f + 1) listed a w :=
 Hd.take hok hi hb hQ (.inl ⟨hg, hy⟩) hS (e ▸ h)
theorem Hd.on {n f : Nat} {oi : Oper} {listed : Array Bool} {a : Act} {w : World} (i : Nat) (h : ∀ K' : Act → World → Prop, Shut (∀ a w, S w → Hd P ops Q S n T f (listed.setIfInBounds i true) a w → K' a w) → if Region.wanted oi (yielded ops a.tmps) = true then Oper.wp P oi a w K' Q else K' (a.put oi.dst undef) w) (hi : ops[i]? = some oi := by rfl) (hb : (decide (i < n) && (Region.ready .any ops listed == [i])) = true := by kernel_rfl) : Hd P ops Q S n T (f + 1) listed a w := Hd.one hi hb h
theorem Hd.dn {n g : Nat} {l l' : List Oper} {listed : Array Bool} {a a' : Act} {w : World} (h : wpList P ops Q l' a' w) (hb : (O_ .any ops n listed && Region.seqB .any ops g n listed) = true := by kernel_rfl) (el : l = l' := by (try simp only [dz_]); exact rfl) (ea : a = a' := by (try simp only [nrm_, Act.put]); exact rfl) : Hd P ops Q S n (Wp P ops Q n g l) 0 listed a w := Hd.done hb (by subst el ea; exact h)
end
theorem wr_ {P : Program} {Q : Exit → Act → World → Prop} {id : Nat} {a : Act} {w : World} {l : List Oper} (S : World → Prop) (n g : Nat) (hS : S w.drew) (h : gx_ l.toArray n → S w.drew → Hd P l.toArray Q S n (Wp P l.toArray Q n g (l.drop n)) n (Array.replicate l.toArray.size false) a w.drew) (hm : P.follows .mixedOrders = true := by kernel_rfl) (hg : n + g = l.length := by rfl) (hok : gx_ l.toArray n := by exact ⟨by kernel_rfl, by kernel_rfl, by kernel_rfl, by decide⟩) : (Code.region id l.toArray true).wp P Q a w := ii_ S n g hm hg hok hS h
theorem bx5 {W : World} {B : Nat} {t : TypeId} {a b c d e : Value} {r : List Value} (h : W.heap[B]? = some (.cells (a :: b :: c :: d :: e :: r).toArray t (0, 0))) : W.cell? ⟨B, 0, none⟩ = some a ∧ W.cell? ⟨B, 1, none⟩ = some b ∧ W.cell? ⟨B, 2, none⟩ = some c ∧ W.cell? ⟨B, 3, none⟩ = some d ∧ W.cell? ⟨B, 4, none⟩ = some e := ⟨bc_ h 0, bc_ h 1, bc_ h 2, bc_ h 3, bc_ h 4⟩
theorem bx6 {W : World} {B : Nat} {t : TypeId} {a b c d e f : Value} {r : List Value} (h : W.heap[B]? = some (.cells (a :: b :: c :: d :: e :: f :: r).toArray t (0, 0))) : W.cell? ⟨B, 0, none⟩ = some a ∧ W.cell? ⟨B, 1, none⟩ = some b ∧ W.cell? ⟨B, 2, none⟩ = some c ∧ W.cell? ⟨B, 3, none⟩ = some d ∧ W.cell? ⟨B, 4, none⟩ = some e ∧ W.cell? ⟨B, 5, none⟩ = some f := ⟨bc_ h 0, bc_ h 1, bc_ h 2, bc_ h 3, bc_ h 4, bc_ h 5⟩
theorem ld_ {W : World} {B : Nat} {C : List Value} {t : TypeId} (h : W.heap[B]? = some (.cells C.toArray t (0, 0))) : ∀ (j : Nat) (v : Value), C[j]? = some v → W.cell? ⟨B, 0 + j, none⟩ = some v := fun j v hj => by rw [Nat.zero_add, bc_ h j, List.getElem?_toArray]; exact hj
theorem sm_ {W : World} {B n m : Nat} (h : (∀ j, j < n → (W.cell? ⟨B, 0 + j, none⟩).isSome = true) ∧ ∀ j, W.frozen? ⟨B, j, none⟩ = false) (e : m = n) : (∀ j, j < m → (W.cell? ⟨B, 0 + j, none⟩).isSome = true) ∧ ∀ j, W.frozen? ⟨B, j, none⟩ = false := by subst e; exact h
theorem hi_ {p : Prop} (h : p) : Hid p := Lib.hid h
abbrev ae := @Below.refl
abbrev ai := @List.getElem?_toArray
abbrev aj := @decide_eq_false
abbrev ak := @List.take_succ_eq_append_getElem
abbrev av := @Hd.tk
abbrev ax := @Nat.le_refl
abbrev ay := @List.getElem?_eq_getElem
abbrev az := @List.length_map
abbrev bf := @List.length_take
abbrev bg := @List.getElem_mem
abbrev bi := @List.length_singleton
abbrev bq := @if_neg
abbrev bu := @And.intro
abbrev bv := @Array.getElem?_eq_some_iff
abbrev bz := @List.length_append
abbrev b_ := @decide_eq_true
abbrev cz := @beq_eq_false_iff_ne
abbrev dh := @if_pos
abbrev di := @Nat.zero_add
abbrev dm := @of_decide_eq_true
abbrev dw := @Nat.zero_le
abbrev dx := @List.mem_singleton
abbrev d_ := @List.mem_cons
abbrev ed := @Nat.le_trans
abbrev eu := @List.eq_nil_of_length_eq_zero
abbrev fe := @List.mem_append
abbrev fo := @List.map_append
abbrev fu := @World.block_lt_of_cell?
abbrev f_ := @of_decide_eq_false
abbrev gm := @List.pairwise_iff_getElem
abbrev gp := @List.take_length
abbrev gq := @List.length_set
abbrev gu := @List.mem_iff_getElem
abbrev gy := @Nat.lt_of_lt_of_le
abbrev gz := @List.Sublist.cons_cons
abbrev g_ := @Hd.on
abbrev ib := @ByteArray.toList_eq
abbrev ic := @Bool.or_false
abbrev ig := @Bool.false_or
abbrev iq := @List.length_drop
abbrev iw := @Bool.or_true
abbrev jc := @Option.some.inj
abbrev jd := @List.append_assoc
abbrev je := @Bool.true_or
abbrev jf := @Rd.below
abbrev jg := @List.pairwise_cons
abbrev jh := @List.mem_cons_of_mem
abbrev ji := @List.getElem?_map
abbrev jk := @congrArg
abbrev jl := @List.getElem?_eq_some_iff
abbrev jm := @List.findIdx?_eq_some_iff_getElem
abbrev jo := @List.mem_map_of_mem
abbrev jr := @List.take_of_length_le
abbrev jy := @List.append_nil
abbrev j3 := @List.pairwise_append
abbrev j4 := @List.Sublist.refl
abbrev j6 := @Iff.rfl
abbrev j_ := @List.Sublist.cons
abbrev ko := @List.getElem?_append_left
abbrev kv := @List.filter_append
abbrev kw := @Hd.dn
abbrev kz := @Nat.mul_le_mul_right
abbrev lh := @List.mem_or_eq_of_mem_set
abbrev lu := @List.getElem?_append_right
abbrev lw := @List.length_filter_le
abbrev l8 := @List.findIdx?_eq_none_iff
abbrev mg := @List.mem_of_getElem?
abbrev ng := @Array.getElem?_eq_getElem
abbrev ny := @Zoo.nil
abbrev n_ := @Nat.eq_zero_or_pos
abbrev oo := @Nat.lt_or_ge
abbrev oq := @Hd.take
abbrev ou := @List.getElem_map
abbrev pu := @List.drop_eq_getElem_cons
abbrev qa := @Nat.add_assoc
abbrev qb := @List.not_mem_nil
abbrev qc := @List.length_cons
abbrev qd := @Bool.and_eq_true
abbrev qh := @List.take_append_drop
abbrev ql := @List.flatMap_cons
abbrev qx := @List.perm_append_singleton
abbrev qy := @IntWalk.u64_in
abbrev rz := @List.mem_of_find?_eq_some
abbrev tq := @List.Pairwise.nil
abbrev tu := @Zoo.alloc
abbrev t_ := @List.set_append_right
abbrev ui := @List.mem_filter
abbrev uk := @List.find?_eq_none
abbrev uq := @List.pairwise_singleton
abbrev uy := @List.cons.injEq
abbrev wu := @List.mem_cons_self
abbrev ww := @List.find?_eq_some_iff_getElem
abbrev wy := @List.drop_length
abbrev yw := @Nat.le_of_eq
abbrev yx := @List.map_cons
abbrev zb := @List.getElem?_eq_none
abbrev ze := @Array.getElem?_toList
abbrev zq := @List.nil_append
abbrev zt := @List.any_append
abbrev zu := @Nat.ne_of_lt
abbrev zw := @DataW.trod_struct
abbrev zx := @Addr.add_lit
abbrev Ae := @Hid.out
abbrev Ah := @List.length_eq_zero_iff
abbrev Ai := @Iff.intro
abbrev Aj := @Hd.two
abbrev A_ := @Nat.succ_mul
abbrev Bi := @Option.map_some
abbrev Ca := @Nat.le_of_ble_eq_true
abbrev Cb := @List.length_replicate
abbrev Cc := @List.getElem_set_self
abbrev Ce := @List.getElem_take
abbrev Cr := @List.mem_of_mem_take
abbrev Cs := @Bool.or_eq_false_iff
abbrev Cy := @Nat.mul_comm
abbrev Cz := @Nat.add_zero
abbrev C_ := @List.all_eq_true
abbrev Df := @List.filter_sublist
abbrev Du := @Nat.not_lt_zero
abbrev Dv := @List.find?_some
abbrev Dw := @List.filter_map
abbrev Ez := @Option.some.injEq
abbrev E_ := @Nat.le_succ_of_le
abbrev Fa := @List.ext_getElem?
abbrev Fb := @Array.getElem?_eq_none
abbrev Ga := @List.eraseIdx_eq_take_drop_succ
abbrev Gb := @List.eraseIdx_sublist
abbrev Gc := @Array.getElem?_modify
abbrev Gs := @Nat.mod_lt
abbrev Gt := @List.any_eq_true
abbrev Hl := @List.take_append_of_le_length
abbrev Ho := @List.set_append_left
abbrev Hq := @List.mem_of_mem_drop
abbrev Jy := @List.map_singleton
abbrev Jz := @List.drop_drop
abbrev K_ := @List.getElem_append_right
abbrev La := @Nat.lt_trichotomy
abbrev Lc := @List.getElem_drop
abbrev Md := @List.Perm.eq_of_pairwise
abbrev Nk := @Nat.add_sub_cancel_left
abbrev Nl := @List.perm_middle
abbrev Nn := @List.getElem_set
abbrev Qa := @List.set_set
abbrev Qb := @List.getElem?_set_self
abbrev Qc := @Array.getElem?_extract
abbrev Qd := @Nat.div_add_mod
abbrev Qe := @Bool.eq_iff_iff
abbrev Qz := @Array.getElem?_mapIdx
abbrev cc_ := @List.map_set
abbrev cd_ := @List.getElem?_set
end
end Go.Proofs.YtdobbfjmlnlieaaGreat
