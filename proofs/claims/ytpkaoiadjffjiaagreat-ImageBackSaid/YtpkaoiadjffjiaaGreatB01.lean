/- Small plain lemmas on byte strings, byte rows and owned rows, over any program; no statement is proved here. Slices that are only read, and appending one of them to a row of the call's own; plain lemmas over any program. Things in memory, none in another's way: each has blocks of its own; what turns one keeps the others. A region that draws its order and ends in a store: its head goes in whatever order, under one condition on the world; its tail goes in its own order. -/
import Derived.WalkKit
import Derived.WalkSpells
import Derived.WalkLawsBesides
import Derived.Lib.Hide
import Derived.Lib.ConvBytes
import Derived.Lib.UnsafeStr
import Derived.Lib.BufferWrite
import Derived.Deep.AppendLies
import Derived.Deep.RegionHeld3
import Derived.Deep.DrawnRows
import Derived.StillTail
namespace Go.Proofs.YtpkaoiadjffjiaaGreat
open Go.RowKit

/-! strings -/
theorem str_eq {s : ByteArray} {l : List UInt8} (h : s.data.toList = l) : Value.string s = .string ⟨l.toArray⟩ := by subst h; rfl
theorem str_eta (s : ByteArray) : Value.string s = .string ⟨s.data.toList.toArray⟩ := rfl
theorem toList_mk (l : List UInt8) : (ByteArray.mk l.toArray).data.toList = l := rfl
theorem toList_app (a b : ByteArray) : (a ++ b).data.toList = a.data.toList ++ b.data.toList := by simp
theorem size_len (s : ByteArray) : s.size = s.data.toList.length := rfl
theorem size_mk (l : List UInt8) : (ByteArray.mk l.toArray).size = l.length := rfl
theorem take_snoc (s : ByteArray) (k : Nat) (h : k < s.size) : s.data.toList.take (k + 1) = s.data.toList.take k ++ [s[k]] := by
  rw [List.take_succ_eq_append_getElem (by simpa using h)]; rfl
theorem take_all (s : ByteArray) : s.data.toList.take s.size = s.data.toList := List.take_of_length_le (by rw [Array.length_toList]; exact Nat.le_refl _)
theorem drop_cons (s : ByteArray) (k : Nat) (h : k < s.size) : s.data.toList.drop k = s[k] :: s.data.toList.drop (k + 1) := by
  rw [List.drop_eq_getElem_cons (by simpa using h)]; rfl
theorem drop_all (s : ByteArray) {k : Nat} (h : s.size ≤ k) : s.data.toList.drop k = [] := List.drop_of_length_le (by rw [Array.length_toList]; exact h)
theorem ext_list (s : ByteArray) (a b : Nat) : (s.extract a b).data.toList = (s.data.toList.drop a).take (b - a) := by
  rw [ByteArray.data_extract, Array.toList_extract]
theorem ext_one (s : ByteArray) (k : Nat) (h : k < s.size) : (s.extract k (k + 1)).data.toList = [s[k]] := by
  rw [ext_list, drop_cons s k h, show k + 1 - k = 1 from by omega]; rfl
theorem size_pos_bool (s : ByteArray) : decide (0 < s.size) = !s.data.toList.isEmpty := by
  rw [size_len]; cases s.data.toList <;> simp
theorem size_pos_boolI (s : ByteArray) : decide ((0 : Int) < (s.size : Int)) = !s.data.toList.isEmpty := by
  rw [← size_pos_bool]; simp
theorem byte_lt (c : UInt8) : (c.toNat : Int) < 256 := by have := c.toNat_lt; omega
theorem byte_nn (c : UInt8) : (0 : Int) ≤ c.toNat := by omega
theorem byte_ext {a b : UInt8} (h : (a.toNat : Int) = b.toNat) : a = b := UInt8.toNat_inj.1 (by omega)

/-! endings -/
theorem ret_bool {a b : Bool} (h : a = b) : Ending.returned (.bool a) = .returned (.bool b) := by rw [h]
theorem ret_int {k : IntKind} {a b : Int} (h : a = b) : Ending.returned (.int k a) = .returned (.int k b) := by rw [h]
theorem ret_str {s : ByteArray} {l : List UInt8} (h : s.data.toList = l) : Ending.returned (.string s) = .returned (.string ⟨l.toArray⟩) := by subst h; rfl

/-! a row of bytes that is read and written in place -/
/-- Block g is a row of the bytes l (and spare room behind), not frozen there. -/
def ByteRow (w : World) (g : Nat) (e : TypeId) (l : List UInt8) : Prop :=
  ∃ (C : Array Value) (fr : Nat × Nat), w.heap[g]? = some (.cells C e fr) ∧ l.length ≤ C.size ∧ (∀ j, j < l.length → C[j]? = some (.int .u8 (l.getD j 0).toNat)) ∧ (fr = (0, 0) ∨ l.length ≤ fr.1)

theorem ByteRow.cell {w : World} {g : Nat} {e : TypeId} {l : List UInt8} (h : ByteRow w g e l) (j : Nat) (hj : j < l.length) : w.cell? ⟨g, j, none⟩ = some (.int .u8 (l.getD j 0).toNat) := by
  obtain ⟨C, fr, hg, hs, hc, _⟩ := h
  simp only [World.cell?, hg]
  simpa using hc j hj
theorem ByteRow.free {w : World} {g : Nat} {e : TypeId} {l : List UInt8} (h : ByteRow w g e l) (j : Nat) (hj : j < l.length) : w.frozen? ⟨g, j, none⟩ = false := by
  obtain ⟨C, fr, hg, hs, hc, hf⟩ := h
  simp only [World.frozen?, hg]
  rcases hf with rfl | hf
  · simp
  · have : ¬ fr.1 ≤ j := by omega
    simp [this]
theorem ByteRow.set {w : World} {g : Nat} {e : TypeId} {l : List UInt8} (h : ByteRow w g e l) (j : Nat) (hj : j < l.length) (c : UInt8) (v : Value) (hv : v = .int .u8 (c.toNat : Int)) : ByteRow (w.setCell ⟨g, j, none⟩ v) g e (l.set j c) := by
  subst hv
  obtain ⟨C, fr, hg, hs, hc, hf⟩ := h
  refine ⟨C.set j (.int .u8 c.toNat) (by omega), fr, ?_, by simpa using hs, ?_, by simpa using hf⟩
  · simp only [World.setCell, Array.getElem?_modify, hg, if_true, Option.map_some]
    simp [Array.setIfInBounds, show j < C.size by omega]
  · intro i hi
    rw [Array.getElem?_set]
    by_cases hij : j = i
    · subst hij; simp [hj]
    · rw [if_neg hij]
      have := hc i (by simpa using hi)
      rw [this]
      simp [List.getD, hij]
theorem ByteRow.of_block {w w' : World} {g : Nat} {e : TypeId} {l : List UInt8} (h : ByteRow w g e l) (hb : w'.heap[g]? = w.heap[g]?) : ByteRow w' g e l := by
  obtain ⟨C, fr, hg, r⟩ := h
  exact ⟨C, fr, hb.trans hg, r⟩
theorem byteRow_conv (w : World) (e : TypeId) (s : ByteArray) : ByteRow (Lib.bytesWorld w e s) w.heap.size e s.data.toList := by
  refine ⟨_, _, Lib.bytesWorld_at_new w e s, ?_, ?_, .inr ?_⟩
  · simp [Lib.bytesCells]
  · intro j hj
    have hj' : j < s.size := by simpa using hj
    have := Lib.bytesWorld_cell w e s j hj'
    simpa [World.cell?, Lib.bytesWorld_at_new] using this
  · simp [Lib.bytesCells]
theorem below_conv (w : World) (e : TypeId) (s : ByteArray) : Below w.heap.size w (Lib.bytesWorld w e s) :=
  ⟨rfl, rfl, rfl, by rw [Lib.bytesWorld_size]; omega, fun k hk => Lib.bytesWorld_at_old w e s k hk⟩
/-- 'string(b)' of such a row. -/
theorem ByteRow.back {P : Program} {w : World} {g : Nat} {e : TypeId} {l : List UInt8} (h : ByteRow w g e l) (src dst : TypeId) (n cap : Nat) (hs : P.underlying src = some (.slice e)) (he : P.underlying e = some (.int .u8)) (hd : P.underlying dst = some .string) (hn : n = l.length) :
    (convert src dst (.slice (some ⟨g, 0, none⟩) n cap)).run P w = .ok (.string ⟨l.toArray⟩) w := by
  subst hn
  exact run_convert_bytes_back w src dst e ⟨g, 0, none⟩ cap l hs he hd (fun j hj => by
    have := h.cell j hj
    rw [Addr.add_lit, Nat.zero_add, this]
    simp [List.getD, hj])

/-- 'string([]byte{n})' -/
theorem run_conv_one {P : Program} (src dst e : TypeId) (hs : P.underlying src = some (.slice e)) (he : P.underlying e = some (.int .u8)) (hd : P.underlying dst = some .string) (w : World) (n : Int) :
    (convert src dst (.slice (some ⟨w.heap.size, 0, none⟩) 1 1)).run P (w.alloc (.cells #[.int .u8 n] e)) = .ok (.string ⟨#[UInt8.ofNat n.toNat]⟩) (w.alloc (.cells #[.int .u8 n] e)) := by
  rw [run_convert_bytes_string _ src dst e _ 1 1 hs he hd]
  have hl := run_loadCells_list (P := P) (w.alloc (.cells #[.int .u8 n] e)) ⟨w.heap.size, 0, none⟩ [.int .u8 n] (fun j v hj => by
    match j, hj with
    | 0, hj => simp at hj; subst hj; simp [Addr.add])
  have := run_bytesToString (P := P) (w.alloc (.cells #[.int .u8 n] e)) ⟨w.heap.size, 0, none⟩ 1 1 [n] (by simpa using hl)
  rw [this]
  rfl

/-! a slice of bytes that the call itself appends to -/
/-- v is a slice of the call's own (from block B on) that holds the bytes l. -/
def OwnBytes (w : World) (B : Nat) (e : TypeId) (v : Value) (l : List UInt8) : Prop := w.ownsRow B e 1 v l.length (Lib.byteCells l)
theorem OwnBytes.nil (w : World) (B : Nat) (e : TypeId) : OwnBytes w B e (.slice none 0 0) [] := World.ownsRow_nil _ _ _ _
theorem OwnBytes.alloc {w : World} {B : Nat} {e : TypeId} {v : Value} {l : List UInt8} (h : OwnBytes w B e v l) (o : Obj) : OwnBytes (w.alloc o) B e v l := World.ownsRow.alloc h o
theorem OwnBytes.len {w : World} {B : Nat} {e : TypeId} {v : Value} {l : List UInt8} (h : OwnBytes w B e v l) : ∃ a c, v = .slice a l.length c := by
  rcases h.2 with ⟨rfl, hn⟩ | ⟨g, cap, cur, rfl, _⟩
  · exact ⟨none, 0, by rw [hn]⟩
  · exact ⟨_, _, rfl⟩
theorem OwnBytes.kept {w w' : World} {B : Nat} {e : TypeId} {v : Value} {l : List UInt8} {row : Option Nat} (h : OwnBytes w B e v l) (hg : w.grownBy w' row) (hne : v.ownBlock = none ∨ v.ownBlock ≠ row) : OwnBytes w' B e v l := World.ownsRow.kept h hg hne
/-- a world in which nothing from before has turned -/
theorem OwnBytes.below {w w' : World} {B : Nat} {e : TypeId} {v : Value} {l : List UInt8} (h : OwnBytes w B e v l) (hb : Below w.heap.size w w') : OwnBytes w' B e v l :=
  World.ownsRow.kept (row := none) h ⟨hb.os, hb.tape, hb.output, hb.size, fun k hk _ => hb.block k hk⟩ (by cases hv : v.ownBlock <;> simp)
/-- 'string(b)' of such a slice. -/
theorem OwnBytes.back {P : Program} {w : World} {B : Nat} {e : TypeId} {v : Value} {l : List UInt8} (h : OwnBytes w B e v l) (src dst : TypeId) (hs : P.underlying src = some (.slice e)) (he : P.underlying e = some (.int .u8)) (hd : P.underlying dst = some .string) :
    (convert src dst v).run P w = .ok (.string ⟨l.toArray⟩) w := by
  rcases h.2 with ⟨rfl, hn⟩ | ⟨g, cap, cur, rfl, hB, hg, hle, hm, hs', htk⟩
  · have : l = [] := List.eq_nil_of_length_eq_zero hn
    subst this
    rw [run_convert_bytes_string w src dst e none 0 0 hs he hd]
    simp [Conv.bytesToString]
    rfl
  · exact run_convert_bytes_back w src dst e ⟨g, 0, none⟩ cap l hs he hd (fun j hj => by
      have hc := World.ownsRow.cells h (g := g) rfl j (.int .u8 l[j].toNat) (by simp [Lib.byteCells, hj])
      exact hc)
theorem cell_new1 (w : World) (v : Value) (e : TypeId) : (w.alloc (.cells #[v] e)).cell? ⟨w.heap.size, 0, none⟩ = some v := by simp
theorem OwnBytes.one (w : World) (e : TypeId) (n : Int) (c : UInt8) (hn : n = c.toNat) : OwnBytes (w.alloc (.cells #[.int .u8 n] e)) w.heap.size e (.slice (some ⟨w.heap.size, 0, none⟩) 1 1) [c] := by
  subst hn
  exact ⟨rfl, .inr ⟨w.heap.size, 1, _, rfl, Nat.le_refl _, heap_alloc_new w _, Nat.le_refl _, by unfold maxLen; omega, rfl, rfl⟩⟩
/-- 'append(b, c)': one byte more. -/
theorem wpList_append_byte {P : Program} {w : World} {ops : Array Oper} {rest : List Oper} {o : Oper} {a : Act} {Q : Exit → Act → World → Prop} (hgd : o.guard = none) (s x : Operand) (t : TypeId)
    (ho : o.op = .call { callee := .builtin .append, args := #[s, x], argTypes := #[t, t] })
    (B : Nat) (e : TypeId) (ht : P.underlying t = some (.slice e)) (hi : (P.info? e).map (fun i => (i.zero, i.size, i.bytes)) = some (some (.int .u8 0), 1, 1))
    (v : Value) (l : List UInt8) (g : Nat) (n : Int) (c : UInt8) (hs : a.eval s = v) (hx : a.eval x = .slice (some ⟨g, 0, none⟩) 1 1)
    (hown : OwnBytes w B e v l) (hc : w.cell? ⟨g, 0, none⟩ = some (.int .u8 n)) (hn : n = c.toNat) (hlen : l.length < 140737488355328) (hbase : B ≤ w.heap.size)
    (h : ∀ v' w', OwnBytes w' B e v' (l ++ [c]) → w.grownBy w' v.ownBlock → wpList P ops Q rest (a.put o.dst v') w') : wpList P ops Q (o :: rest) a w := by
  subst hn
  obtain ⟨i, hi0, hz, hz1, hz2⟩ := info_parts hi
  refine wpList_append_own w hgd s x t ho B e i (.int .u8 0) 1 1 ht hi0 hz hz1 hz2 rfl (by decide) v l.length (Lib.byteCells l) hs hown ⟨g, 0, none⟩ 1 1 [.int .u8 c.toNat] hx rfl ?_ ?_ ?_ ?_ hbase ?_
  · intro j u hj
    match j, hj with
    | 0, hj => simp at hj; subst hj; simpa [Addr.add] using hc
  · intro u hu; simp at hu; subst hu; rfl
  · unfold maxLen; omega
  · omega
  · intro v' w' ho' hg' _
    refine h v' w' ?_ hg'
    unfold OwnBytes
    rw [Lib.byteCells_append]
    simpa [Lib.byteCells] using ho'
theorem OwnBytes.lt {w : World} {B : Nat} {e : TypeId} {v : Value} {l : List UInt8} (h : OwnBytes w B e v l) : ∀ k, v.ownBlock = some k → B ≤ k ∧ k < w.heap.size := World.ownsRow.lt h
theorem below_grown {B : Nat} {a w w' : World} {e : TypeId} {v : Value} {l : List UInt8} (h : Below B a w) (hg : w.grownBy w' v.ownBlock) (hB : B ≤ w.heap.size) (ho : OwnBytes w B e v l) : Below B a w' :=
  h.grown hg hB (fun k hk => (ho.lt k hk).1)

end Go.Proofs.YtpkaoiadjffjiaaGreat
namespace Go.Proofs.YtpkaoiadjffjiaaGreat
open Go.RowKit

/-- v is a slice of n elements; its cells are cs -/
def Rd (w : World) (v : Value) (n : Nat) (cs : List Value) : Prop := ∃ ao cap, v = .slice ao n cap ∧ (n = 0 ∨ ∃ b o, ao = some ⟨b, o, none⟩ ∧ b < w.heap.size ∧ n ≤ cap ∧ ∀ i u, cs[i]? = some u → w.cell? ⟨b, o + i, none⟩ = some u)
theorem Rd.below {w w' : World} {v : Value} {n : Nat} {cs : List Value} (h : Rd w v n cs) (hb : Below w.heap.size w w') : Rd w' v n cs := by
  obtain ⟨ao, cap, hv, h | ⟨b, o, ha, hlt, hle, hc⟩⟩ := h
  · exact ⟨ao, cap, hv, .inl h⟩
  · exact ⟨ao, cap, hv, .inr ⟨b, o, ha, Nat.lt_of_lt_of_le hlt hb.size, hle, fun i u hu => (hb.cell (p := ⟨b, o + i, none⟩) hlt).trans (hc i u hu)⟩⟩
theorem Rd.heap {w w' : World} {v : Value} {n : Nat} {cs : List Value} (h : Rd w v n cs) (hh : w'.heap = w.heap) : Rd w' v n cs := by
  obtain ⟨ao, cap, hv, h | ⟨b, o, ha, hlt, hle, hc⟩⟩ := h
  · exact ⟨ao, cap, hv, .inl h⟩
  · exact ⟨ao, cap, hv, .inr ⟨b, o, ha, by rw [hh]; exact hlt, hle, fun i u hu => by have := hc i u hu; simp only [World.cell?, hh] at this ⊢; exact this⟩⟩
theorem Rd.of_own {w : World} {B k : Nat} {e : TypeId} {v : Value} {n : Nat} {cs : List Value} (h : w.ownsRow B e k v n cs) : Rd w v n cs := by
  rcases h.2 with ⟨rfl, rfl⟩ | ⟨g, cap, cur, rfl, hB, hg, hle, _⟩
  · exact ⟨none, 0, rfl, .inl rfl⟩
  · exact ⟨_, cap, rfl, .inr ⟨g, 0, rfl, (Array.getElem?_eq_some_iff.1 hg).1, hle, fun i u hu => by have := World.ownsRow.cells h (g := g) rfl i u hu; simpa [Addr.add_lit] using this⟩⟩
/-- Rd of memory from before block B, in a world in which nothing below B has turned -/
def RdB (B : Nat) (w : World) (v : Value) (n : Nat) (cs : List Value) : Prop := ∃ ao cap, v = .slice ao n cap ∧ (n = 0 ∨ ∃ b o, ao = some ⟨b, o, none⟩ ∧ b < B ∧ n ≤ cap ∧ ∀ i u, cs[i]? = some u → w.cell? ⟨b, o + i, none⟩ = some u)
theorem Rd.at_ {w : World} {v : Value} {n : Nat} {cs : List Value} (h : Rd w v n cs) : RdB w.heap.size w v n cs := h
theorem RdB.later {B : Nat} {w w' : World} {v : Value} {n : Nat} {cs : List Value} (h : RdB B w v n cs) (hb : Below B w w') : RdB B w' v n cs := by
  obtain ⟨ao, cap, hv, h | ⟨b, o, ha, hlt, hle, hc⟩⟩ := h
  · exact ⟨ao, cap, hv, .inl h⟩
  · exact ⟨ao, cap, hv, .inr ⟨b, o, ha, hlt, hle, fun i u hu => (hb.cell (p := ⟨b, o + i, none⟩) hlt).trans (hc i u hu)⟩⟩
theorem RdB.len {B : Nat} {w : World} {v : Value} {n : Nat} {cs : List Value} (h : RdB B w v n cs) : ∃ ao cap, v = .slice ao n cap := by
  obtain ⟨ao, cap, hv, _⟩ := h
  exact ⟨ao, cap, hv⟩
theorem RdB.at_pos {B : Nat} {w : World} {ao : Option Addr} {cap n : Nat} {cs : List Value} (h : RdB B w (.slice ao n cap) n cs) (hn : 0 < n) : ∃ b o, ao = some ⟨b, o, none⟩ ∧ b < B ∧ ∀ i u, cs[i]? = some u → w.cell? ⟨b, o + i, none⟩ = some u := by
  obtain ⟨ao', cap', hv, h | h⟩ := h
  · omega
  · cases hv
    obtain ⟨b, o, h1, h2, _, h3⟩ := h
    exact ⟨b, o, h1, h2, h3⟩
theorem RdB.cap_le {B : Nat} {w : World} {ao : Option Addr} {cap n : Nat} {cs : List Value} (h : RdB B w (.slice ao n cap) n cs) (hn : 0 < n) : n ≤ cap := by
  obtain ⟨ao', cap', hv, h | ⟨b, o, h1, h2, h3, _⟩⟩ := h
  · omega
  · cases hv; exact h3
theorem Rd.cap_le {w : World} {ao : Option Addr} {cap n : Nat} {cs : List Value} (h : Rd w (.slice ao n cap) n cs) (hn : 0 < n) : n ≤ cap := RdB.cap_le (B := w.heap.size) h hn
theorem Rd.at_pos {w : World} {ao : Option Addr} {cap n : Nat} {cs : List Value} (h : Rd w (.slice ao n cap) n cs) (hn : 0 < n) : ∃ b o, ao = some ⟨b, o, none⟩ ∧ b < w.heap.size ∧ ∀ i u, cs[i]? = some u → w.cell? ⟨b, o + i, none⟩ = some u := RdB.at_pos (B := w.heap.size) h hn
theorem run_append_owned_empty {P : Program} {w : World} (base : Nat) (t ty e : TypeId) (i : TypeInfo) (size : Nat) (ht : P.underlying t = some (.slice e)) (hi : P.info? e = some i)
    (v : Value) (n : Nat) (xs : List Value) (hown : w.ownsRow base e size v n xs) (ao : Option Addr) (c : Nat) :
    (Builtin.append_ #[t, t] ty #[v, .slice ao 0 c]).run P w = .ok v w := by
  rcases hown.2 with ⟨rfl, rfl⟩ | ⟨g, cap, cur, rfl, _, _, hnc, _⟩
  · cases ao <;> simp [Builtin.append_, run_underlying ht, sizeOf, typeInfo, hi, Builtin.lenOf, Builtin.firstCells, loadCells, loadCellsFrom]
  · cases ao <;> simp [Builtin.append_, run_underlying ht, sizeOf, typeInfo, hi, Builtin.lenOf, Builtin.firstCells, hnc, storeCells, loadCells, loadCellsFrom]
theorem wp_append_rd {P : Program} {w : World} {o : Oper} {a : Act} {K : Act → World → Prop} {Q : Exit → Act → World → Prop} (s x : Operand) (t : TypeId)
    (ho : o.op = .call { callee := .builtin .append, args := #[s, x], argTypes := #[t, t] }) (B : Nat) (e : TypeId) (z : Value) (size bytes : Nat) (ht : P.underlying t = some (.slice e)) (hi : (P.info? e).map (fun i => (i.zero, i.size, i.bytes)) = some (some z, size, bytes)) (hzs : z.cells.size = size) (hsz : 0 < size)
    (v v2 : Value) (n m : Nat) (xs news : List Value) (hs : a.eval s = v) (hx : a.eval x = v2) (hown : w.ownsRow B e size v n xs) (h2 : Rd w v2 m news) (hl : news.length = m * size) (h1 : ∀ u ∈ news, u.oneCell' = true) (h63 : n + m ≤ maxLen) (hbytes : (n + m) * bytes ≤ 140737488355328) (hbase : B ≤ w.heap.size)
    (h : ∀ v' w', w'.ownsRow B e size v' (n + m) (xs ++ news) → w.grownBy w' v.ownBlock → (∀ g, v'.ownBlock = some g → v.ownBlock = some g ∨ w.heap.size ≤ g) → K (a.put o.dst v') w') : Oper.wp P o a w K Q := by
  obtain ⟨i, hi0, hz, hz1, hz2⟩ := info_parts hi
  obtain ⟨ao, cap, rfl, h3⟩ := h2
  rcases Nat.eq_zero_or_pos m with rfl | hm
  · have hn : news = [] := List.eq_nil_of_length_eq_zero (by simpa using hl)
    subst hn
    have hrun := run_append_owned_empty (P := P) (w := w) B t o.type e i size ht hi0 v n xs hown ao cap
    unfold Oper.wp
    simp [execOp, ho, resolve, invoke, builtin, hs, hx, hrun, Result.andThen]
    exact h _ _ (by simpa using hown) ⟨rfl, rfl, rfl, Nat.le_refl _, fun _ _ _ => rfl⟩ (fun g hg => .inl hg)
  · rcases h3 with h3 | ⟨b, off, rfl, hlt, _, hc⟩
    · omega
    · refine wp_append_lies w s x t ho B e i z size bytes ht hi0 hz hz1 hz2 hzs hsz v n xs hs hown ⟨b, off, none⟩ m cap news hx hl (fun j u hu => by rw [Addr.add_lit]; exact hc j u hu) h1 hm h63 hbytes hbase _ rfl ?_
      intro g1 cap1 w' hown1 hg hat hlt1
      refine h _ _ hown1 hg (fun k hk => ?_)
      have : g1 = k := by simpa [Value.ownBlock] using hk
      subst this
      rcases hat with h4 | h4
      · exact .inl h4
      · right; omega
/-- 'append(v, v2...)': v a row of the call's own (from block B on), v2 a slice that reads so -/
theorem wpList_append_rd {P : Program} {w : World} {ops : Array Oper} {rest : List Oper} {o : Oper} {a : Act} {Q : Exit → Act → World → Prop} (hgd : o.guard = none) (s x : Operand) (t : TypeId)
    (ho : o.op = .call { callee := .builtin .append, args := #[s, x], argTypes := #[t, t] }) (B : Nat) (e : TypeId) (z : Value) (size bytes : Nat) (ht : P.underlying t = some (.slice e)) (hi : (P.info? e).map (fun i => (i.zero, i.size, i.bytes)) = some (some z, size, bytes)) (hzs : z.cells.size = size) (hsz : 0 < size)
    (v v2 : Value) (n m : Nat) (xs news : List Value) (hs : a.eval s = v) (hx : a.eval x = v2) (hown : w.ownsRow B e size v n xs) (h2 : Rd w v2 m news) (hl : news.length = m * size) (h1 : ∀ u ∈ news, u.oneCell' = true) (h63 : n + m ≤ maxLen) (hbytes : (n + m) * bytes ≤ 140737488355328) (hbase : B ≤ w.heap.size)
    (h : ∀ v' w', w'.ownsRow B e size v' (n + m) (xs ++ news) → w.grownBy w' v.ownBlock → (∀ g, v'.ownBlock = some g → v.ownBlock = some g ∨ w.heap.size ≤ g) → wpList P ops Q rest (a.put o.dst v') w') : wpList P ops Q (o :: rest) a w :=
  wpList_plain hgd fun _ hK => wp_append_rd s x t ho B e z size bytes ht hi hzs hsz v v2 n m xs news hs hx hown h2 hl h1 h63 hbytes hbase fun v' w' h2 h3 h4 => hK _ _ (h v' w' h2 h3 h4)
theorem below_drewN {B : Nat} {a w : World} (h : Below B a w) (n : Nat) : Below B a (w.drewN n) := ⟨h.os, h.tape, h.output, h.size, h.block⟩
/-- the pieces, one behind the other -/
def catB (ss : List ByteArray) : List UInt8 := ss.flatMap fun s => s.data.toList
def strCells (ss : List ByteArray) : List Value := ss.map Value.string
theorem catB_snoc (ss : List ByteArray) (i : Nat) (h : i < ss.length) : catB (ss.take (i + 1)) = catB (ss.take i) ++ ss[i].data.toList := by
  unfold catB
  rw [List.take_succ_eq_append_getElem h, List.flatMap_append]; simp
theorem catB_len (ss : List ByteArray) (i : Nat) : (catB (ss.take i)).length ≤ (catB ss).length := by
  have h : catB ss = catB (ss.take i) ++ catB (ss.drop i) := by
    unfold catB
    rw [← List.flatMap_append, List.take_append_drop]
  rw [h, List.length_append]; omega
theorem strCells_at (ss : List ByteArray) (k : Nat) (h : k < ss.length) : (strCells ss)[k]? = some (.string ss[k]) := by simp [strCells, h]
end Go.Proofs.YtpkaoiadjffjiaaGreat
namespace Go.Proofs.YtpkaoiadjffjiaaGreat
open Go.RowKit

abbrev Foot := Nat → Prop
/-- what lies in the blocks F of a world, and hangs on these alone -/
structure Th where
  holds : Foot → World → Prop
  lt : ∀ F W, holds F W → ∀ k, F k → k < W.heap.size
  kept : ∀ F W W', holds F W → (∀ k, F k → W'.heap[k]? = W.heap[k]?) → holds F W'
structure Grows (F : Foot) (W : World) (F' : Foot) (W' : World) : Prop where
  os : W'.os = W.os
  tape : W'.tape = W.tape
  output : W'.output = W.output
  size : W.heap.size ≤ W'.heap.size
  block : ∀ k, k < W.heap.size → ¬ F k → W'.heap[k]? = W.heap[k]?
  foot : ∀ k, F' k → F k ∨ W.heap.size ≤ k
theorem Grows.trans {F F' F2 : Foot} {W W' W2 : World} (h : Grows F W F' W') (k : Grows F' W' F2 W2) : Grows F W F2 W2 :=
  ⟨k.os.trans h.os, k.tape.trans h.tape, k.output.trans h.output, Nat.le_trans h.size k.size, fun x hx h1 => (k.block x (Nat.lt_of_lt_of_le hx h.size) (fun h2 => by
    rcases h.foot x h2 with h3 | h3
    · exact h1 h3
    · omega)).trans (h.block x hx h1), fun x hx => by
    rcases k.foot x hx with h1 | h1
    · exact h.foot x h1
    · exact .inr (Nat.le_trans h.size h1)⟩
theorem Grows.of_below {F : Foot} {W W' : World} (h : Below W.heap.size W W') : Grows F W F W' := ⟨h.os, h.tape, h.output, h.size, fun k hk _ => h.block k hk, fun _ h => .inl h⟩
theorem Grows.sub {F F1 F' F2 : Foot} {W W' : World} (h : Grows F W F' W') (h1 : ∀ k, F k → F1 k) (h2 : ∀ k, F2 k → F' k) : Grows F1 W F2 W' :=
  ⟨h.os, h.tape, h.output, h.size, fun k hk hn => h.block k hk (fun hf => hn (h1 k hf)), fun k hk => (h.foot k (h2 k hk)).imp_left (h1 k)⟩
theorem Th.below (O : Th) {F : Foot} {W W' : World} (h : O.holds F W) (hb : Below W.heap.size W W') : O.holds F W' := O.kept F W W' h (fun k hk => hb.block k (O.lt F W h k hk))
abbrev Zl := List (Th × Foot)
structure ZooL (B : Nat) (W : World) (P : Zl) : Prop where
  holds : ∀ x ∈ P, x.1.holds x.2 W
  low : ∀ x ∈ P, ∀ k, x.2 k → B ≤ k
  apart : P.Pairwise (fun x y => ∀ k, x.2 k → ¬ y.2 k)
/-- the things L lie apart from each other, in memory made since W0; what was there before is as it was -/
def Zoo (W0 W : World) (L : List Th) : Prop := Below W0.heap.size W0 W ∧ ∃ P : Zl, P.map Prod.fst = L ∧ ZooL W0.heap.size W P
theorem Zoo.nil (W : World) : Zoo W W [] := ⟨Below.refl _ _, [], rfl, ⟨fun x hx => by simp at hx, fun x hx => by simp at hx, List.Pairwise.nil⟩⟩
theorem Zoo.below {W0 W W' : World} {L : List Th} (h : Zoo W0 W L) (hb : Below W.heap.size W W') : Zoo W0 W' L := by
  obtain ⟨h0, P, h1, h2⟩ := h
  exact ⟨h0.trans (hb.mono h0.size), P, h1, ⟨fun x hx => x.1.below (h2.holds x hx) hb, h2.low, h2.apart⟩⟩
theorem Zoo.drew {W0 W : World} {L : List Th} (h : Zoo W0 W L) : Zoo W0 W.drew L := h.below ((Below.refl _ _).drew)
theorem Zoo.alloc {W0 W : World} {L : List Th} (h : Zoo W0 W L) (o : Obj) : Zoo W0 (W.alloc o) L := h.below ((Below.refl _ _).alloc (Nat.le_refl _) o)
/-- a thing more, in memory that is new -/
theorem Zoo.more {W0 W W' : World} {L : List Th} (h : Zoo W0 W L) (hb : Below W.heap.size W W') (O : Th) (F : Foot) (hO : O.holds F W') (hF : ∀ k, F k → W.heap.size ≤ k) : Zoo W0 W' (O :: L) := by
  obtain ⟨h0, P, h1, h2⟩ := h.below hb
  obtain ⟨g0, Q, g1, g2⟩ := h
  refine ⟨h0, (O, F) :: Q, by rw [List.map_cons, g1], ⟨fun x hx => ?_, fun x hx k hk => ?_, ?_⟩⟩
  · rcases List.mem_cons.1 hx with rfl | hx
    · exact hO
    · exact x.1.below (g2.holds x hx) hb
  · rcases List.mem_cons.1 hx with rfl | hx
    · exact Nat.le_trans g0.size (hF k hk)
    · exact g2.low x hx k hk
  · refine List.pairwise_cons.2 ⟨fun y hy k hk hk2 => ?_, g2.apart⟩
    have := y.1.lt _ _ (g2.holds y hy) k hk2
    have := hF k hk
    omega
/-- a thing with no blocks of its own, or with what no other may have, beside the others -/
theorem Zoo.bare {W0 W : World} {L : List Th} (h : Zoo W0 W L) (O : Th) (hO : O.holds (fun _ => False) W) : Zoo W0 W (O :: L) := h.more (Below.refl _ _) O _ hO (fun _ h => h.elim)
theorem zl_set {P : Zl} {L : List Th} (h : P.map Prod.fst = L) (i : Nat) (x : Th × Foot) : (P.set i x).map Prod.fst = L.set i x.1 := by rw [List.map_set, h]
theorem zl_get {P : Zl} {L : List Th} (h : P.map Prod.fst = L) {i : Nat} {O : Th} (hi : L[i]? = some O) : ∃ F, P[i]? = some (O, F) := by
  rw [← h, List.getElem?_map] at hi
  cases hp : P[i]? with
  | none => rw [hp] at hi; cases hi
  | some x => rw [hp] at hi; cases hi; exact ⟨x.2, rfl⟩
theorem pairwise_at {P : Zl} (h : P.Pairwise (fun x y => ∀ k, x.2 k → ¬ y.2 k)) {i j : Nat} {x y : Th × Foot} (hx : P[i]? = some x) (hy : P[j]? = some y) (hij : i ≠ j) : ∀ k, x.2 k → ¬ y.2 k := by
  obtain ⟨hi, rfl⟩ := List.getElem?_eq_some_iff.1 hx
  obtain ⟨hj, rfl⟩ := List.getElem?_eq_some_iff.1 hy
  intro k h1 h2
  rcases Nat.lt_or_gt_of_ne hij with q | q
  · exact List.pairwise_iff_getElem.1 h i j hi hj q k h1 h2
  · exact List.pairwise_iff_getElem.1 h j i hj hi q k h2 h1
/-- one of the things is turned -/
theorem Zoo.act {W0 W : World} {L : List Th} (h : Zoo W0 W L) (i : Nat) (O : Th) (hi : L[i]? = some O) :
    ∃ F, O.holds F W ∧ (∀ k, F k → W0.heap.size ≤ k) ∧ ∀ (O' : Th) (F' : Foot) (W' : World), O'.holds F' W' → Grows F W F' W' → Zoo W0 W' (L.set i O') := by
  obtain ⟨h0, P, h1, h2⟩ := h
  obtain ⟨F, hF⟩ := zl_get h1 hi
  have hm := List.mem_of_getElem? hF
  have hlow := h2.low _ hm
  refine ⟨F, h2.holds _ hm, hlow, fun O' F' W' hO hG => ⟨⟨hG.os.trans h0.os, hG.tape.trans h0.tape, hG.output.trans h0.output, Nat.le_trans h0.size hG.size, fun k hk => (hG.block k (Nat.lt_of_lt_of_le hk h0.size) (fun hf => by have := hlow k hf; omega)).trans (h0.block k hk)⟩, P.set i (O', F'), zl_set h1 i _, ?_⟩⟩
  have hil := (List.getElem?_eq_some_iff.1 hF).1
  have hcase : ∀ j x, (P.set i (O', F'))[j]? = some x → (j = i ∧ x = (O', F')) ∨ (j ≠ i ∧ P[j]? = some x) := fun j x hx => by
    rw [List.getElem?_set] at hx
    by_cases e : i = j
    · subst e; rw [if_pos rfl, if_pos hil] at hx; exact .inl ⟨rfl, (Option.some.inj hx).symm⟩
    · rw [if_neg e] at hx; exact .inr ⟨fun q => e q.symm, hx⟩
  refine ⟨fun x hx => ?_, fun x hx k hk => ?_, List.pairwise_iff_getElem.2 fun a b ha hb hab k hk1 hk2 => ?_⟩
  · obtain ⟨j, hj, rfl⟩ := List.mem_iff_getElem.1 hx
    rcases hcase j _ (List.getElem?_eq_getElem hj) with ⟨_, e⟩ | ⟨e, hp⟩
    · rw [e]; exact hO
    · have hh := h2.holds _ (List.mem_of_getElem? hp)
      exact Th.kept _ _ _ _ hh (fun k hk => hG.block k (Th.lt _ _ _ hh k hk) (fun hf => pairwise_at h2.apart hp hF e k hk hf))
  · obtain ⟨j, hj, rfl⟩ := List.mem_iff_getElem.1 hx
    rcases hcase j _ (List.getElem?_eq_getElem hj) with ⟨_, e⟩ | ⟨e, hp⟩
    · rw [e] at hk
      rcases hG.foot k hk with q | q
      · exact hlow k q
      · exact Nat.le_trans h0.size q
    · exact h2.low _ (List.mem_of_getElem? hp) k hk
  · have new : ∀ (j : Nat) (y : Th × Foot), P[j]? = some y → j ≠ i → F' k → ¬ y.2 k := fun j y hy hj hf hy2 => by
      rcases hG.foot k hf with q | q
      · exact pairwise_at h2.apart hy hF hj k hy2 q
      · have := Th.lt _ _ _ (h2.holds y (List.mem_of_getElem? hy)) k hy2; omega
    rcases hcase a _ (List.getElem?_eq_getElem ha) with ⟨e1, q1⟩ | ⟨e1, q1⟩ <;> rcases hcase b _ (List.getElem?_eq_getElem hb) with ⟨e2, q2⟩ | ⟨e2, q2⟩
    · omega
    · rw [q1] at hk1; exact new b _ q2 e2 hk1 hk2
    · rw [q2] at hk2; exact new a _ q1 e1 hk2 hk1
    · exact pairwise_at h2.apart q1 q2 (by omega) k hk1 hk2
theorem Zoo.get {W0 W : World} {L : List Th} (h : Zoo W0 W L) (i : Nat) (O : Th) (hi : L[i]? = some O) : ∃ F, O.holds F W ∧ ∀ k, F k → W0.heap.size ≤ k := by
  obtain ⟨F, h1, h2, _⟩ := h.act i O hi
  exact ⟨F, h1, h2⟩
/-- a thing is another, in the same blocks -/
theorem Zoo.turn {W0 W : World} {L : List Th} (h : Zoo W0 W L) (i : Nat) (O O' : Th) (hi : L[i]? = some O) (ht : ∀ F, O.holds F W → O'.holds F W) : Zoo W0 W (L.set i O') := by
  obtain ⟨F, h1, _, h2⟩ := h.act i O hi
  exact h2 O' F W (ht F h1) (Grows.of_below (Below.refl _ _))
theorem Zoo.sub {W0 W : World} {L L' : List Th} (h : Zoo W0 W L) (hs : L'.Sublist L) : Zoo W0 W L' := by
  obtain ⟨h0, P, h1, h2⟩ := h
  subst h1
  obtain ⟨P', hP, rfl⟩ := List.sublist_map_iff.1 hs
  exact ⟨h0, P', rfl, ⟨fun x hx => h2.holds x (hP.subset hx), fun x hx => h2.low x (hP.subset hx), h2.apart.sublist hP⟩⟩
theorem Zoo.bel {W0 W : World} {L : List Th} (h : Zoo W0 W L) : Below W0.heap.size W0 W := h.1
/-- the first two change places -/
theorem Zoo.swap {W0 W : World} {L : List Th} {a b : Th} (h : Zoo W0 W (a :: b :: L)) : Zoo W0 W (b :: a :: L) := by
  obtain ⟨h0, P, h1, h2⟩ := h
  match P, h1 with
  | x :: y :: P, h1 =>
    simp only [List.map_cons, List.cons.injEq] at h1
    obtain ⟨rfl, rfl, rfl⟩ := h1
    have ha := h2.apart
    simp only [List.pairwise_cons, List.mem_cons] at ha
    refine ⟨h0, y :: x :: P, rfl, ⟨fun z hz => h2.holds z (by simp only [List.mem_cons] at hz ⊢; rcases hz with h | h | h <;> simp [h]), fun z hz => h2.low z (by simp only [List.mem_cons] at hz ⊢; rcases hz with h | h | h <;> simp [h]), ?_⟩⟩
    simp only [List.pairwise_cons, List.mem_cons]
    refine ⟨fun z hz k hk1 hk2 => ?_, fun z hz => ha.1 z (.inr hz), ha.2.2⟩
    rcases hz with rfl | hz
    · exact ha.1 y (.inl rfl) k hk2 hk1
    · exact ha.2.1 z hz k hk1 hk2
/-- under the first two a third comes ahead -/
theorem Zoo.swap2 {W0 W : World} {L : List Th} {a b c : Th} (h : Zoo W0 W (a :: b :: c :: L)) : Zoo W0 W (a :: c :: b :: L) := by
  obtain ⟨h0, P, h1, h2⟩ := h
  rcases P with _ | ⟨x, _ | ⟨y, _ | ⟨z, P⟩⟩⟩
  · simp at h1
  · simp at h1
  · simp at h1
  · simp only [List.map_cons, List.cons.injEq] at h1
    obtain ⟨rfl, rfl, rfl, rfl⟩ := h1
    have hp : (x :: z :: y :: P).Perm (x :: y :: z :: P) := List.Perm.cons x (List.Perm.swap y z P)
    exact ⟨h0, x :: z :: y :: P, rfl, ⟨fun q hq => h2.holds q (hp.mem_iff.1 hq), fun q hq => h2.low q (hp.mem_iff.1 hq), hp.symm.pairwise h2.apart (fun h k h1 h2 => h k h2 h1)⟩⟩
theorem Zoo.tail {W0 W : World} {L : List Th} {a : Th} (h : Zoo W0 W (a :: L)) : Zoo W0 W L := h.sub (List.sublist_cons_self _ _)
/-- what is apart from it stays apart: a thing is put away for a while -/
theorem Zoo.cell {W0 W : World} {L : List Th} (h : Zoo W0 W L) {b j : Nat} {v : Value} (hb : b < W0.heap.size) (hc : W0.cell? ⟨b, j, none⟩ = some v) : W.cell? ⟨b, j, none⟩ = some v := (h.bel.cell (p := ⟨b, j, none⟩) hb).trans hc
/-- cells in a block of their own -/
def boxT (B : Nat) (C : Array Value) (t : TypeId) : Th := ⟨fun F W => W.heap[B]? = some (.cells C t (0, 0)) ∧ ∀ k, F k ↔ k = B, fun F W h k hk => by
    rw [(h.2 k).1 hk]; exact (Array.getElem?_eq_some_iff.1 h.1).1, fun F W W' h hk => ⟨(hk B ((h.2 B).2 rfl)).trans h.1, h.2⟩⟩
theorem Zoo.box {W0 W : World} {L : List Th} {B : Nat} {C : Array Value} {t : TypeId} (h : Zoo W0 W L) (i : Nat) (hi : L[i]? = some (boxT B C t)) : W.heap[B]? = some (.cells C t (0, 0)) ∧ W0.heap.size ≤ B := by
  obtain ⟨F, h1, h2⟩ := h.get i _ hi
  exact ⟨h1.1, h2 B ((h1.2 B).2 rfl)⟩
theorem Zoo.newBox {W0 W : World} {L : List Th} (h : Zoo W0 W L) (C : Array Value) (t : TypeId) : Zoo W0 (W.alloc (.cells C t)) (boxT W.heap.size C t :: L) :=
  h.more ((Below.refl _ _).alloc (Nat.le_refl _) _) _ (fun k => k = W.heap.size) ⟨heap_alloc_new W _, fun _ => Iff.rfl⟩ (fun _ hk => Nat.le_of_eq hk.symm)
theorem box_cell {W : World} {B : Nat} {C : Array Value} {t : TypeId} (h : W.heap[B]? = some (.cells C t (0, 0))) (j : Nat) : W.cell? ⟨B, j, none⟩ = C[j]? := by simp [World.cell?, h]
theorem box_free {W : World} {B : Nat} {C : Array Value} {t : TypeId} (h : W.heap[B]? = some (.cells C t (0, 0))) (j : Nat) : W.frozen? ⟨B, j, none⟩ = false := by simp [World.frozen?, h]
end Go.Proofs.YtpkaoiadjffjiaaGreat
namespace Go.Proofs.YtpkaoiadjffjiaaGreat
open Go.RowKit

section
variable {P : Program} {ops : Array Oper} {Q : Exit → Act → World → Prop} {md : Region.Mode} {S : World → Prop} {T : Array Bool → Act → World → Prop}
/-- each operation behind the n-th waits for one of those from n on -/
def chB (md : Region.Mode) (ops : Array Oper) (n : Nat) : Bool :=
  (List.range ops.size).all fun t => decide (t ≤ n) || (List.range t).any fun t' => decide (n ≤ t') && Region.waitsFor md ops t t'
theorem tail_waits' {n : Nat} {listed : Array Bool} (hs : Region.sinkB md ops n = true) (hc : chB md ops n = true) (inv : HeadInv md ops n listed) :
    ∀ (d i : Nat), n - i = d → i < n → listed.getD i true = false → ∀ t, n ≤ t → t ∉ Region.ready md ops listed := by
  intro d
  induction d using Nat.strongRecOn with
  | _ d ih =>
    intro i hd hi hun t ht hr
    obtain ⟨_, ot, hot, hall⟩ := mem_ready.1 hr
    have htlt : t < ops.size := (Array.getElem?_eq_some_iff.1 hot).1
    by_cases htn : t = n
    · subst htn
      have h1 := List.all_eq_true.1 hs i (List.mem_range.2 hi)
      obtain ⟨j, hj, hj2⟩ := List.any_eq_true.1 h1
      simp only [Bool.and_eq_true, decide_eq_true_eq] at hj2
      obtain ⟨oj, hoj, e, he, hb, hon⟩ := Region.waitsFor_spec hj2.2
      have hjle : j ≤ t := by have := List.mem_range.1 hj; omega
      by_cases hjt : j = t
      · subst hjt
        have : oj = ot := Option.some.inj (hoj.symm.trans hot)
        subst this
        have h2 := hall e he hb
        rw [hon, getD_both hun] at h2
        cases h2
      · cases hl : listed.getD j false with
        | true =>
          have h2 := inv.closed j oj hoj hl e he hb
          rw [hon, getD_both hun] at h2
          cases h2
        | false =>
          have hjs : j < listed.size := by rw [inv.size]; omega
          exact ih (t - j) (by omega) j rfl (by omega) (getD_in hjs hl) t (Nat.le_refl _) hr
    · have h1 := List.all_eq_true.1 hc t (List.mem_range.2 htlt)
      simp only [Bool.or_eq_true, decide_eq_true_eq] at h1
      rcases h1 with h1 | h1
      · omega
      · obtain ⟨t', ht', h2⟩ := List.any_eq_true.1 h1
        have ht2 := List.mem_range.1 ht'
        simp only [Bool.and_eq_true, decide_eq_true_eq] at h2
        obtain ⟨o', ho', e, he, hb, hon⟩ := Region.waitsFor_spec h2.2
        have : o' = ot := Option.some.inj (ho'.symm.trans hot)
        subst this
        have h3 := hall e he hb
        rw [hon, getD_both (inv.tail t' h2.1 (by omega))] at h3
        cases h3
/-- all that may come up are from n on -/
def lateB (md : Region.Mode) (ops : Array Oper) (n : Nat) (listed : Array Bool) : Bool := (Region.ready md ops listed).all fun j => decide (n ≤ j)
theorem lateB_spec {n : Nat} {listed : Array Bool} (h : lateB md ops n listed = true) : ∀ j ∈ Region.ready md ops listed, n ≤ j := fun j hj => by simpa using List.all_eq_true.1 h j hj
/-- whatever order is picked among the first n; S holds behind each; then T, and the last g follow in their order -/
def wpHd (P : Program) (md : Region.Mode) (ops : Array Oper) (Q : Exit → Act → World → Prop) (S : World → Prop) (n : Nat) (T : Array Bool → Act → World → Prop) : Nat → Array Bool → Act → World → Prop
  | 0, listed, a, w => lateB md ops n listed = true ∧ T listed a w
  | f + 1, listed, a, w => Region.ready md ops listed ≠ [] ∧ ∀ i ∈ Region.ready md ops listed, i < n ∧ wpOp P ops Q i (fun a' w' => S w' ∧ wpHd P md ops Q S n T f (listed.setIfInBounds i true) a' w') a w
theorem wpAny_of_hd {n g : Nat} (hT : ∀ listed a w, T listed a w → wpAny P md ops Q g listed a w) :
    ∀ (f : Nat) (listed : Array Bool) (a : Act) (w : World), wpHd P md ops Q S n T f listed a w → wpAny P md ops Q (f + g) listed a w
  | 0, listed, a, w, h => by rw [Nat.zero_add]; exact hT _ _ _ h.2
  | f + 1, listed, a, w, h => by
    rw [show f + 1 + g = (f + g) + 1 by omega]
    exact ⟨fun h0 => absurd h0 h.1, fun i hi => wpOp_mono (fun a' w' h' => wpAny_of_hd hT f _ a' w' h'.2) (h.2 i hi).2⟩
theorem wpHd_first {n i : Nat} {oi : Oper} {v : Value} (hi : ops[i]? = some oi) (hsel : ∀ (j : Nat) (o : Oper) cs b, ops[j]? = some o → o.op ≠ .select cs b)
    (hQ : ∀ c a w, Q (.panic c) (a.put oi.dst v) w → Q (.panic c) a w)
    (hs : Region.sinkB md ops n = true) (hc : chB md ops n = true) (hin : i < n) :
    ∀ (f : Nat) (listed : Array Bool) (a : Act) (w : World), HeadInv md ops n listed →
      (∀ j oj, ops[j]? = some oj → j ≠ i → listed.getD j true = false → (∀ e ∈ oj.after, Region.binds md e = true → e.on ≠ i) → oi.apart ops oj = true) →
      i ∈ Region.ready md ops listed → YieldsIf P ops S oi v a → S w →
      wpHd P md ops Q S n T f (listed.setIfInBounds i true) (a.put oi.dst v) w → wpHd P md ops Q S n T (f + 1) listed a w := by
  intro f
  induction f with
  | zero =>
    intro listed a w inv _ hr hy hS H
    have hun := (mem_ready.1 hr).1
    refine ⟨fun h => (by rw [h] at hr; cases hr), fun j hj => ?_⟩
    have hjn : j < n := by
      rcases Nat.lt_or_ge j n with h | h
      · exact h
      · exact absurd hj (tail_waits' hs hc inv _ i rfl hin hun j h)
    refine ⟨hjn, ?_⟩
    by_cases hji : j = i
    · subst hji; exact hy.wpOp hi hS ⟨hS, H⟩
    · have := lateB_spec H.1 j (ready_mono hj hji)
      omega
  | succ f ih =>
    intro listed a w inv hfree hr hy hS H
    have hun := (mem_ready.1 hr).1
    refine ⟨fun h => (by rw [h] at hr; cases hr), fun j hj => ?_⟩
    have hjn : j < n := by
      rcases Nat.lt_or_ge j n with h | h
      · exact h
      · exact absurd hj (tail_waits' hs hc inv _ i rfl hin hun j h)
    refine ⟨hjn, ?_⟩
    by_cases hji : j = i
    · subst hji; exact hy.wpOp hi hS ⟨hS, H⟩
    · have h1 := (H.2 j (ready_mono hj hji)).2
      obtain ⟨hjun, oj, hoj, hall⟩ := mem_ready.1 hj
      have hnot : ∀ e ∈ oj.after, Region.binds md e = true → e.on ≠ i := fun e he hb heq => by
        have h1 := hall e he hb
        rw [heq, getD_both hun] at h1
        cases h1
      have h2 := wpOp_putIf hoj (hfree j oj hoj hji hjun hnot) (fun cs b => hsel i oi cs b hi) (fun cs b => hsel j oj cs b hoj) hQ hy h1
      have hfree' : ∀ k ok, ops[k]? = some ok → k ≠ i → (listed.setIfInBounds j true).getD k true = false →
          (∀ e ∈ ok.after, Region.binds md e = true → e.on ≠ i) → oi.apart ops ok = true := fun k ok hk hki hun hno => by
        refine hfree k ok hk hki ?_ hno
        by_cases hjk : j = k
        · subst hjk; exact hjun
        · rw [getD_set_ne true hjk] at hun; exact hun
      refine wpOp_mono (fun a' w' h3 => ⟨h3.2.1, ih (listed.setIfInBounds j true) a' w' (inv.set hj hjn) hfree' (ready_mono hr (Ne.symm hji)) h3.1 h3.2.1 ?_⟩) h2
      rw [Array.setIfInBounds_comm _ _ hji]
      exact h3.2.2
/-- the goal of a walk by hand: the listed ones are closed -/
def Hd (P : Program) (ops : Array Oper) (Q : Exit → Act → World → Prop) (S : World → Prop) (n : Nat) (T : Array Bool → Act → World → Prop) (f : Nat) (listed : Array Bool) (a : Act) (w : World) : Prop :=
  HeadInv .any ops n listed → wpHd P .any ops Q S n T f listed a w
structure HdOk (ops : Array Oper) (n : Nat) : Prop where
  sel : Region.noSelect ops = true
  sink : Region.sinkB .any ops n = true
  chain : chB .any ops n = true
  lt : n < ops.size
/-- number i is taken first -/
theorem Hd.take {n i f : Nat} {oi : Oper} {v : Value} {listed : Array Bool} {a : Act} {w : World} (hok : HdOk ops n) (hi : ops[i]? = some oi) (hb : (decide (i < n) && ((Region.ready .any ops listed).contains i && Region.free .any ops listed i)) = true)
    (hQ : ∀ c a w, Q (.panic c) (a.put oi.dst v) w → Q (.panic c) a w) (hy : YieldsIf P ops S oi v a) (hS : S w)
    (h : Hd P ops Q S n T f (listed.setIfInBounds i true) (a.put oi.dst v) w) : Hd P ops Q S n T (f + 1) listed a w := fun inv => by
  simp only [Bool.and_eq_true, decide_eq_true_eq] at hb
  have hr : i ∈ Region.ready .any ops listed := by simpa using hb.2.1
  exact wpHd_first hi (Region.noSelect_spec hok.sel) hQ hok.sink hok.chain hb.1 f listed a w inv (Region.free_spec hi hb.2.2) hr hy hS (h (inv.set hr hb.1))
/-- one alone may come up -/
theorem Hd.one {n i f : Nat} {oi : Oper} {listed : Array Bool} {a : Act} {w : World} (hi : ops[i]? = some oi) (hb : (decide (i < n) && (Region.ready .any ops listed == [i])) = true)
    (h : ∀ K' : Act → World → Prop, Shut (∀ a w, S w → Hd P ops Q S n T f (listed.setIfInBounds i true) a w → K' a w) → if Region.wanted oi (yielded ops a.tmps) = true then Oper.wp P oi a w K' Q else K' (a.put oi.dst undef) w) : Hd P ops Q S n T (f + 1) listed a w := fun inv => by
  simp only [Bool.and_eq_true, decide_eq_true_eq, beq_iff_eq] at hb
  have hr : i ∈ Region.ready .any ops listed := by rw [hb.2]; simp
  refine ⟨by rw [hb.2]; simp, fun j hj => ?_⟩
  rw [hb.2] at hj
  obtain rfl : j = i := by simpa using hj
  exact ⟨hb.1, wpOp_step hi (fun K' hK => h K' (fun a w hS hW => hK a w ⟨hS, hW (inv.set hr hb.1)⟩))⟩
/-- two may come up -/
theorem Hd.two {n i k f : Nat} {oi ok : Oper} {listed : Array Bool} {a : Act} {w : World} (hi : ops[i]? = some oi) (hk : ops[k]? = some ok) (hb : (decide (i < n) && (decide (k < n) && (Region.ready .any ops listed == [i, k]))) = true)
    (h : ∀ K' : Act → World → Prop, Shut (∀ a w, S w → Hd P ops Q S n T f (listed.setIfInBounds i true) a w → K' a w) → if Region.wanted oi (yielded ops a.tmps) = true then Oper.wp P oi a w K' Q else K' (a.put oi.dst undef) w)
    (h2 : ∀ K' : Act → World → Prop, Shut (∀ a w, S w → Hd P ops Q S n T f (listed.setIfInBounds k true) a w → K' a w) → if Region.wanted ok (yielded ops a.tmps) = true then Oper.wp P ok a w K' Q else K' (a.put ok.dst undef) w) : Hd P ops Q S n T (f + 1) listed a w := fun inv => by
  simp only [Bool.and_eq_true, decide_eq_true_eq, beq_iff_eq] at hb
  have hri : i ∈ Region.ready .any ops listed := by rw [hb.2.2]; simp
  have hrk : k ∈ Region.ready .any ops listed := by rw [hb.2.2]; simp
  refine ⟨by rw [hb.2.2]; simp, fun j hj => ?_⟩
  rw [hb.2.2] at hj
  by_cases e : j = i
  · subst e
    exact ⟨hb.1, wpOp_step hi (fun K' hK => h K' (fun a w hS hW => hK a w ⟨hS, hW (inv.set hri hb.1)⟩))⟩
  · obtain rfl : j = k := by
      simp only [List.mem_cons, List.not_mem_nil, or_false] at hj
      rcases hj with h | h
      · exact absurd h e
      · exact h
    exact ⟨hb.2.1, wpOp_step hk (fun K' hK => h2 K' (fun a w hS hW => hK a w ⟨hS, hW (inv.set hrk hb.2.1)⟩))⟩
theorem Hd.fin {n : Nat} {listed : Array Bool} {a : Act} {w : World} (hb : lateB .any ops n listed = true) (h : HeadInv .any ops n listed → T listed a w) : Hd P ops Q S n T 0 listed a w := fun inv => ⟨hb, h inv⟩
/-- the tail follows in its order -/
def TailT (P : Program) (ops : Array Oper) (Q : Exit → Act → World → Prop) (n g : Nat) (l : List Oper) (listed : Array Bool) (a : Act) (w : World) : Prop := Region.seqB .any ops g n listed = true ∧ wpList P ops Q l a w
theorem Hd.done {n g : Nat} {l : List Oper} {listed : Array Bool} {a : Act} {w : World} (hb : (lateB .any ops n listed && Region.seqB .any ops g n listed) = true) (h : wpList P ops Q l a w) : Hd P ops Q S n (TailT P ops Q n g l) 0 listed a w := fun _ => by
  rw [Bool.and_eq_true] at hb
  exact ⟨hb.1, hb.2, h⟩
/-- a second head follows, under another condition -/
theorem Hd.stage {S2 : World → Prop} {T2 : Array Bool → Act → World → Prop} {n n2 f : Nat} {listed : Array Bool} {a : Act} {w : World} (hb : (decide (n ≤ n2) && lateB .any ops n listed) = true) (h : Hd P ops Q S2 n2 T2 f listed a w) : Hd P ops Q S n (wpHd P .any ops Q S2 n2 T2 f) 0 listed a w := fun inv => by
  simp only [Bool.and_eq_true, decide_eq_true_eq] at hb
  exact ⟨hb.2, h ⟨inv.size, inv.closed, fun t ht => inv.tail t (Nat.le_trans hb.1 ht)⟩⟩
end
theorem inv_start (l : List Oper) (n : Nat) : HeadInv .any l.toArray n (Array.replicate l.toArray.size false) :=
  ⟨by simp, fun j oj _ hl => (by rw [getD_replicate_false] at hl; cases hl), fun t _ ht => getD_in (by simpa using ht) (getD_replicate_false _ _)⟩
theorem tailT_any {P : Program} {Q : Exit → Act → World → Prop} {l : List Oper} {n g : Nat} (hg : n + g = l.length) : ∀ listed a w, TailT P l.toArray Q n g (l.drop n) listed a w → wpAny P .any l.toArray Q g listed a w := fun listed a w h => by
  have hdl : (l.drop n).length = g := by rw [List.length_drop]; omega
  have := wpAny_of_seq (md := .any) (Q' := Q) (l.drop n) n listed a w (fun j => by simp [List.getElem?_drop]) (by rw [hdl]; exact h.1) h.2
  rwa [hdl] at this
/-- the beginning -/
theorem wp_region_hd {P : Program} {Q : Exit → Act → World → Prop} {id : Nat} {a : Act} {w : World} {l : List Oper} (S : World → Prop) (n g : Nat) (hm : P.follows .mixedOrders = true) (hg : n + g = l.length) (hok : HdOk l.toArray n) (hS : S w.drew)
    (h : HdOk l.toArray n → S w.drew → Hd P l.toArray Q S n (TailT P l.toArray Q n g (l.drop n)) n (Array.replicate l.toArray.size false) a w.drew) : (Code.region id l.toArray true).wp P Q a w := by
  refine wp_region_any hm ?_
  have := wpAny_of_hd (Q := Q) (S := S) (g := g) (n := n) (tailT_any hg) n _ _ _ (h hok hS (inv_start l n))
  rw [hg] at this
  simpa using this
/-- the beginning, where two heads stand before the tail -/
theorem wp_region_hd2 {P : Program} {Q : Exit → Act → World → Prop} {id : Nat} {a : Act} {w : World} {l : List Oper} (S S2 : World → Prop) (n n2 g : Nat) (hm : P.follows .mixedOrders = true) (hn : n ≤ n2) (hg : n2 + g = l.length) (hok : HdOk l.toArray n) (hS : S w.drew)
    (h : HdOk l.toArray n → S w.drew → Hd P l.toArray Q S n (wpHd P .any l.toArray Q S2 n2 (TailT P l.toArray Q n2 g (l.drop n2)) (n2 - n)) n (Array.replicate l.toArray.size false) a w.drew) : (Code.region id l.toArray true).wp P Q a w := by
  refine wp_region_any hm ?_
  have := wpAny_of_hd (Q := Q) (S := S) (g := (n2 - n) + g) (n := n) (fun listed a w h2 => wpAny_of_hd (Q := Q) (S := S2) (g := g) (n := n2) (tailT_any hg) (n2 - n) listed a w h2) n _ _ _ (h hok hS (inv_start l n))
  rw [show n + (n2 - n + g) = l.length by omega] at this
  simpa using this
end Go.Proofs.YtpkaoiadjffjiaaGreat
