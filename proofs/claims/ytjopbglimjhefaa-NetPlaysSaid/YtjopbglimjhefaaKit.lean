/- Small plain lemmas on byte strings, byte rows and owned rows, over any program; no statement is proved here. -/
import Derived.WalkKit
import Derived.WalkSpells
import Derived.WalkLawsBesides
import Derived.Lib.Hide
import Derived.Lib.ConvBytes
import Derived.Lib.UnsafeStr
import Derived.Lib.BufferWrite
namespace Go.Proofs.Ytjopbglimjhefaa
open Go.RowKit

/-! strings -/
theorem str_eq {s : ByteArray} {l : List UInt8} (h : s.data.toList = l) : Value.string s = .string ⟨l.toArray⟩ := by subst h; rfl
theorem str_eta (s : ByteArray) : Value.string s = .string ⟨s.data.toList.toArray⟩ := rfl
theorem toList_mk (l : List UInt8) : (ByteArray.mk l.toArray).data.toList = l := rfl
theorem toList_app (a b : ByteArray) : (a ++ b).data.toList = a.data.toList ++ b.data.toList := by simp
theorem size_len (s : ByteArray) : s.size = s.data.toList.length := rfl
theorem size_mk (l : List UInt8) : (ByteArray.mk l.toArray).size = l.length := rfl
theorem take_snoc (s : ByteArray) (k : Nat) (h : k < s.size) : s.data.toList.take (k + 1) = s.data.toList.take k ++ [s[k]] := by
  rw [List.take_succ_eq_append_getElem (by simpa using h)]; rfl
theorem take_all (s : ByteArray) : s.data.toList.take s.size = s.data.toList := List.take_of_length_le (by rw [Array.length_toList]; exact Nat.le_refl _)
theorem drop_cons (s : ByteArray) (k : Nat) (h : k < s.size) : s.data.toList.drop k = s[k] :: s.data.toList.drop (k + 1) := by
  rw [List.drop_eq_getElem_cons (by simpa using h)]; rfl
theorem drop_all (s : ByteArray) {k : Nat} (h : s.size ≤ k) : s.data.toList.drop k = [] := List.drop_of_length_le (by rw [Array.length_toList]; exact h)
theorem ext_list (s : ByteArray) (a b : Nat) : (s.extract a b).data.toList = (s.data.toList.drop a).take (b - a) := by
  rw [ByteArray.data_extract, Array.toList_extract]
theorem ext_one (s : ByteArray) (k : Nat) (h : k < s.size) : (s.extract k (k + 1)).data.toList = [s[k]] := by
  rw [ext_list, drop_cons s k h, show k + 1 - k = 1 from by omega]; rfl
theorem size_pos_bool (s : ByteArray) : decide (0 < s.size) = !s.data.toList.isEmpty := by
  rw [size_len]; cases s.data.toList <;> simp
theorem size_pos_boolI (s : ByteArray) : decide ((0 : Int) < (s.size : Int)) = !s.data.toList.isEmpty := by
  rw [← size_pos_bool]; simp
theorem byte_lt (c : UInt8) : (c.toNat : Int) < 256 := by have := c.toNat_lt; omega
theorem byte_nn (c : UInt8) : (0 : Int) ≤ c.toNat := by omega
theorem byte_ext {a b : UInt8} (h : (a.toNat : Int) = b.toNat) : a = b := UInt8.toNat_inj.1 (by omega)

/-! endings -/
theorem ret_bool {a b : Bool} (h : a = b) : Ending.returned (.bool a) = .returned (.bool b) := by rw [h]
theorem ret_int {k : IntKind} {a b : Int} (h : a = b) : Ending.returned (.int k a) = .returned (.int k b) := by rw [h]
theorem ret_str {s : ByteArray} {l : List UInt8} (h : s.data.toList = l) : Ending.returned (.string s) = .returned (.string ⟨l.toArray⟩) := by subst h; rfl

/-! a row of bytes that is read and written in place -/
/-- Block g is a row of the bytes l (and spare room behind), not frozen there. -/
def ByteRow (w : World) (g : Nat) (e : TypeId) (l : List UInt8) : Prop :=
  ∃ (C : Array Value) (fr : Nat × Nat), w.heap[g]? = some (.cells C e fr) ∧ l.length ≤ C.size ∧ (∀ j, j < l.length → C[j]? = some (.int .u8 (l.getD j 0).toNat)) ∧ (fr = (0, 0) ∨ l.length ≤ fr.1)

theorem ByteRow.cell {w : World} {g : Nat} {e : TypeId} {l : List UInt8} (h : ByteRow w g e l) (j : Nat) (hj : j < l.length) : w.cell? ⟨g, j, none⟩ = some (.int .u8 (l.getD j 0).toNat) := by
  obtain ⟨C, fr, hg, hs, hc, _⟩ := h
  simp only [World.cell?, hg]
  simpa using hc j hj
theorem ByteRow.free {w : World} {g : Nat} {e : TypeId} {l : List UInt8} (h : ByteRow w g e l) (j : Nat) (hj : j < l.length) : w.frozen? ⟨g, j, none⟩ = false := by
  obtain ⟨C, fr, hg, hs, hc, hf⟩ := h
  simp only [World.frozen?, hg]
  rcases hf with rfl | hf
  · simp
  · have : ¬ fr.1 ≤ j := by omega
    simp [this]
theorem ByteRow.set {w : World} {g : Nat} {e : TypeId} {l : List UInt8} (h : ByteRow w g e l) (j : Nat) (hj : j < l.length) (c : UInt8) (v : Value) (hv : v = .int .u8 (c.toNat : Int)) : ByteRow (w.setCell ⟨g, j, none⟩ v) g e (l.set j c) := by
  subst hv
  obtain ⟨C, fr, hg, hs, hc, hf⟩ := h
  refine ⟨C.set j (.int .u8 c.toNat) (by omega), fr, ?_, by simpa using hs, ?_, by simpa using hf⟩
  · simp only [World.setCell, Array.getElem?_modify, hg, if_true, Option.map_some]
    simp [Array.setIfInBounds, show j < C.size by omega]
  · intro i hi
    rw [Array.getElem?_set]
    by_cases hij : j = i
    · subst hij; simp [hj]
    · rw [if_neg hij]
      have := hc i (by simpa using hi)
      rw [this]
      simp [List.getD, hij]
theorem ByteRow.of_block {w w' : World} {g : Nat} {e : TypeId} {l : List UInt8} (h : ByteRow w g e l) (hb : w'.heap[g]? = w.heap[g]?) : ByteRow w' g e l := by
  obtain ⟨C, fr, hg, r⟩ := h
  exact ⟨C, fr, hb.trans hg, r⟩
theorem byteRow_conv (w : World) (e : TypeId) (s : ByteArray) : ByteRow (Lib.bytesWorld w e s) w.heap.size e s.data.toList := by
  refine ⟨_, _, Lib.bytesWorld_at_new w e s, ?_, ?_, .inr ?_⟩
  · simp [Lib.bytesCells]
  · intro j hj
    have hj' : j < s.size := by simpa using hj
    have := Lib.bytesWorld_cell w e s j hj'
    simpa [World.cell?, Lib.bytesWorld_at_new] using this
  · simp [Lib.bytesCells]
theorem below_conv (w : World) (e : TypeId) (s : ByteArray) : Below w.heap.size w (Lib.bytesWorld w e s) :=
  ⟨rfl, rfl, rfl, by rw [Lib.bytesWorld_size]; omega, fun k hk => Lib.bytesWorld_at_old w e s k hk⟩
/-- 'string(b)' of such a row. -/
theorem ByteRow.back {P : Program} {w : World} {g : Nat} {e : TypeId} {l : List UInt8} (h : ByteRow w g e l) (src dst : TypeId) (n cap : Nat) (hs : P.underlying src = some (.slice e)) (he : P.underlying e = some (.int .u8)) (hd : P.underlying dst = some .string) (hn : n = l.length) :
    (convert src dst (.slice (some ⟨g, 0, none⟩) n cap)).run P w = .ok (.string ⟨l.toArray⟩) w := by
  subst hn
  exact run_convert_bytes_back w src dst e ⟨g, 0, none⟩ cap l hs he hd (fun j hj => by
    have := h.cell j hj
    rw [Addr.add_lit, Nat.zero_add, this]
    simp [List.getD, hj])

/-- 'string([]byte{n})' -/
theorem run_conv_one {P : Program} (src dst e : TypeId) (hs : P.underlying src = some (.slice e)) (he : P.underlying e = some (.int .u8)) (hd : P.underlying dst = some .string) (w : World) (n : Int) :
    (convert src dst (.slice (some ⟨w.heap.size, 0, none⟩) 1 1)).run P (w.alloc (.cells #[.int .u8 n] e)) = .ok (.string ⟨#[UInt8.ofNat n.toNat]⟩) (w.alloc (.cells #[.int .u8 n] e)) := by
  rw [run_convert_bytes_string _ src dst e _ 1 1 hs he hd]
  have hl := run_loadCells_list (P := P) (w.alloc (.cells #[.int .u8 n] e)) ⟨w.heap.size, 0, none⟩ [.int .u8 n] (fun j v hj => by
    match j, hj with
    | 0, hj => simp at hj; subst hj; simp [Addr.add])
  have := run_bytesToString (P := P) (w.alloc (.cells #[.int .u8 n] e)) ⟨w.heap.size, 0, none⟩ 1 1 [n] (by simpa using hl)
  rw [this]
  rfl

/-! a slice of bytes that the call itself appends to -/
/-- v is a slice of the call's own (from block B on) that holds the bytes l. -/
def OwnBytes (w : World) (B : Nat) (e : TypeId) (v : Value) (l : List UInt8) : Prop := w.ownsRow B e 1 v l.length (Lib.byteCells l)
theorem OwnBytes.nil (w : World) (B : Nat) (e : TypeId) : OwnBytes w B e (.slice none 0 0) [] := World.ownsRow_nil _ _ _ _
theorem OwnBytes.alloc {w : World} {B : Nat} {e : TypeId} {v : Value} {l : List UInt8} (h : OwnBytes w B e v l) (o : Obj) : OwnBytes (w.alloc o) B e v l := World.ownsRow.alloc h o
theorem OwnBytes.len {w : World} {B : Nat} {e : TypeId} {v : Value} {l : List UInt8} (h : OwnBytes w B e v l) : ∃ a c, v = .slice a l.length c := by
  rcases h.2 with ⟨rfl, hn⟩ | ⟨g, cap, cur, rfl, _⟩
  · exact ⟨none, 0, by rw [hn]⟩
  · exact ⟨_, _, rfl⟩
theorem OwnBytes.kept {w w' : World} {B : Nat} {e : TypeId} {v : Value} {l : List UInt8} {row : Option Nat} (h : OwnBytes w B e v l) (hg : w.grownBy w' row) (hne : v.ownBlock = none ∨ v.ownBlock ≠ row) : OwnBytes w' B e v l := World.ownsRow.kept h hg hne
/-- a world in which nothing from before has turned -/
theorem OwnBytes.below {w w' : World} {B : Nat} {e : TypeId} {v : Value} {l : List UInt8} (h : OwnBytes w B e v l) (hb : Below w.heap.size w w') : OwnBytes w' B e v l :=
  World.ownsRow.kept (row := none) h ⟨hb.os, hb.tape, hb.output, hb.size, fun k hk _ => hb.block k hk⟩ (by cases hv : v.ownBlock <;> simp)
/-- 'string(b)' of such a slice. -/
theorem OwnBytes.back {P : Program} {w : World} {B : Nat} {e : TypeId} {v : Value} {l : List UInt8} (h : OwnBytes w B e v l) (src dst : TypeId) (hs : P.underlying src = some (.slice e)) (he : P.underlying e = some (.int .u8)) (hd : P.underlying dst = some .string) :
    (convert src dst v).run P w = .ok (.string ⟨l.toArray⟩) w := by
  rcases h.2 with ⟨rfl, hn⟩ | ⟨g, cap, cur, rfl, hB, hg, hle, hm, hs', htk⟩
  · have : l = [] := List.eq_nil_of_length_eq_zero hn
    subst this
    rw [run_convert_bytes_string w src dst e none 0 0 hs he hd]
    simp [Conv.bytesToString]
    rfl
  · exact run_convert_bytes_back w src dst e ⟨g, 0, none⟩ cap l hs he hd (fun j hj => by
      have hc := World.ownsRow.cells h (g := g) rfl j (.int .u8 l[j].toNat) (by simp [Lib.byteCells, hj])
      exact hc)
theorem cell_new1 (w : World) (v : Value) (e : TypeId) : (w.alloc (.cells #[v] e)).cell? ⟨w.heap.size, 0, none⟩ = some v := by simp
theorem OwnBytes.one (w : World) (e : TypeId) (n : Int) (c : UInt8) (hn : n = c.toNat) : OwnBytes (w.alloc (.cells #[.int .u8 n] e)) w.heap.size e (.slice (some ⟨w.heap.size, 0, none⟩) 1 1) [c] := by
  subst hn
  exact ⟨rfl, .inr ⟨w.heap.size, 1, _, rfl, Nat.le_refl _, heap_alloc_new w _, Nat.le_refl _, by unfold maxLen; omega, rfl, rfl⟩⟩
/-- 'append(b, c)': one byte more. -/
theorem wpList_append_byte {P : Program} {w : World} {ops : Array Oper} {rest : List Oper} {o : Oper} {a : Act} {Q : Exit → Act → World → Prop} (hgd : o.guard = none) (s x : Operand) (t : TypeId)
    (ho : o.op = .call { callee := .builtin .append, args := #[s, x], argTypes := #[t, t] })
    (B : Nat) (e : TypeId) (ht : P.underlying t = some (.slice e)) (hi : (P.info? e).map (fun i => (i.zero, i.size, i.bytes)) = some (some (.int .u8 0), 1, 1))
    (v : Value) (l : List UInt8) (g : Nat) (n : Int) (c : UInt8) (hs : a.eval s = v) (hx : a.eval x = .slice (some ⟨g, 0, none⟩) 1 1)
    (hown : OwnBytes w B e v l) (hc : w.cell? ⟨g, 0, none⟩ = some (.int .u8 n)) (hn : n = c.toNat) (hlen : l.length < 140737488355328) (hbase : B ≤ w.heap.size)
    (h : ∀ v' w', OwnBytes w' B e v' (l ++ [c]) → w.grownBy w' v.ownBlock → wpList P ops Q rest (a.put o.dst v') w') : wpList P ops Q (o :: rest) a w := by
  subst hn
  obtain ⟨i, hi0, hz, hz1, hz2⟩ := info_parts hi
  refine wpList_append_own w hgd s x t ho B e i (.int .u8 0) 1 1 ht hi0 hz hz1 hz2 rfl (by decide) v l.length (Lib.byteCells l) hs hown ⟨g, 0, none⟩ 1 1 [.int .u8 c.toNat] hx rfl ?_ ?_ ?_ ?_ hbase ?_
  · intro j u hj
    match j, hj with
    | 0, hj => simp at hj; subst hj; simpa [Addr.add] using hc
  · intro u hu; simp at hu; subst hu; rfl
  · unfold maxLen; omega
  · omega
  · intro v' w' ho' hg' _
    refine h v' w' ?_ hg'
    unfold OwnBytes
    rw [Lib.byteCells_append]
    simpa [Lib.byteCells] using ho'
theorem OwnBytes.lt {w : World} {B : Nat} {e : TypeId} {v : Value} {l : List UInt8} (h : OwnBytes w B e v l) : ∀ k, v.ownBlock = some k → B ≤ k ∧ k < w.heap.size := World.ownsRow.lt h
theorem below_grown {B : Nat} {a w w' : World} {e : TypeId} {v : Value} {l : List UInt8} (h : Below B a w) (hg : w.grownBy w' v.ownBlock) (hB : B ≤ w.heap.size) (ho : OwnBytes w B e v l) : Below B a w' :=
  h.grown hg hB (fun k hk => (ho.lt k hk).1)

end Go.Proofs.Ytjopbglimjhefaa
