/- An operation turns no mailbox but the one that it names: plain. mail.Find, once more: what it hands back reads alike wherever what is new stays. (written by tools/gen_MnF.py out of MlQ) What the laws of mail ask of states in blocks, while other blocks are made and written. -/
import Derived.Test.YtdobbfjmlnlieaaGreatB20
import Derived.Test.YtdobbfjmlnlieaaGreatB22
import Derived.Test.YtdobbfjmlnlieaaGreatB16
import Derived.Test.YtdobbfjmlnlieaaGreatB24
namespace Go.Proofs.YtdobbfjmlnlieaaGreat
set_option linter.unusedSimpArgs false
open Go.RowKit

/-- the mailbox that a request names (of a copy the one that it goes to) -/
def namedOf (q : Rq) : ByteArray := if q.op = 9 then q.to_ else q.box
def Apart (m m' : Ml) (n : List UInt8) (new : Prop) : Prop := (∀ b ∈ m.boxes, b.name.data.toList ≠ n → b ∈ m'.boxes) ∧ ∀ t ∈ m'.boxes, (∃ b ∈ m.boxes, b.name = t.name) ∨ (t.name.data.toList = n ∧ new)
theorem Apart.same {m m' : Ml} {n : List UInt8} {new : Prop} (e : m'.boxes = m.boxes) : Apart m m' n new := ⟨fun b hb _ => by rw [e]; exact hb, fun t ht => .inl ⟨t, by rw [e] at ht; exact ht, rfl⟩⟩
theorem Apart.set {m : Ml} {n : List UInt8} {new : Prop} {i : Nat} (hi : i < m.boxes.length) (b : Bx) (hb : b.name = m.boxes[i].name) (hn : m.boxes[i].name.data.toList = n) : Apart m (setM m i b) n new := by
  refine ⟨fun x hx hne => ?_, fun t ht => .inl ?_⟩
  · rcases mem_set_in b hi hx with rfl | h
    · exact absurd hn hne
    · exact h
  · rcases mem_set_out ht with h | rfl
    · exact ⟨t, h, rfl⟩
    · exact ⟨m.boxes[i], List.getElem_mem hi, hb.symm⟩
end Go.Proofs.YtdobbfjmlnlieaaGreat
namespace Go.Proofs.YtdobbfjmlnlieaaGreat
set_option linter.unusedSimpArgs false
open Go.RowKit
attribute [local go_sem ↓] Go.wp_at_zero Go.wp_at_succ

def FindS (W : World) (m : Ml) (name : ByteArray) (e : Ending) (w' : World) : Prop := ∃ z : BxV, e = .returned (.tuple #[bxAgg z, .bool (findM m name).isSome]) ∧ Hid (z.b = (findM m name).getD bx0.b) ∧ Hid (Stay (fun k => W.heap.size ≤ k) w' fun x => LtsIn x z.v z.rows) ∧ Hid (Below W.heap.size W w')
end Go.Proofs.YtdobbfjmlnlieaaGreat
namespace Go.Proofs.YtdobbfjmlnlieaaGreat
set_option linter.unusedSimpArgs false
open Go.RowKit

def okL (L : List Nat) : Nat → Prop := fun k => ∀ b ∈ L, k ≠ b
section
variable {w : World} {P : World → Prop} {L : List Nat}
theorem Stay.okL {n : Nat} (h : Stay (fun k => n ≤ k) w P) (hL : ∀ b ∈ L, b < n) : Stay (okL L) w P := h.weak (fun k _ hk b hb => by have h1 := hL b hb; have h2 : n ≤ k := hk; omega)
theorem Stay.allocL (h : Stay (Go.Proofs.YtdobbfjmlnlieaaGreat.okL L) w P) (o : Obj) : Stay (Go.Proofs.YtdobbfjmlnlieaaGreat.okL (w.heap.size :: L)) (w.alloc o) P :=
  (h.weak (fun k hk h1 b hb => by
    rcases List.mem_cons.1 hb with rfl | hb
    · exact Nat.ne_of_lt hk
    · exact h1 b hb)).below ((Below.refl _ _).alloc (Nat.le_refl _) o)
theorem Stay.setL (h : Stay (Go.Proofs.YtdobbfjmlnlieaaGreat.okL L) w P) {B : Nat} (hB : B ∈ L) (C : List Value) : Stay (Go.Proofs.YtdobbfjmlnlieaaGreat.okL L) (w.setCells B 0 C) P := h.sets B C (fun _ hk _ => hk B hB)
theorem Stay.lessL {L' : List Nat} (h : Stay (Go.Proofs.YtdobbfjmlnlieaaGreat.okL L) w P) (hL : ∀ b ∈ L', b ∈ L) : Stay (Go.Proofs.YtdobbfjmlnlieaaGreat.okL L') w P := h.weak (fun _ _ hk b hb => hk b (hL b hb))
theorem Stay.one {MB : Nat} (h : Stay (fun k => k ≠ MB) w P) : Stay (Go.Proofs.YtdobbfjmlnlieaaGreat.okL [MB]) w P := h.weak (fun _ _ hk b hb => by rw [List.mem_singleton.1 hb]; exact hk)
end
theorem ltL_below {L : List Nat} {w w' : World} (h : ∀ b ∈ L, b < w.heap.size) (hb : w.heap.size ≤ w'.heap.size) : ∀ b ∈ L, b < w'.heap.size := fun b hm => Nat.lt_of_lt_of_le (h b hm) hb
theorem ltL_alloc {L : List Nat} {w : World} (h : ∀ b ∈ L, b < w.heap.size) (o : Obj) : ∀ b ∈ w.heap.size :: L, b < (w.alloc o).heap.size := fun b hm => by
  have hs : (w.alloc o).heap.size = w.heap.size + 1 := by simp
  rw [hs]
  rcases List.mem_cons.1 hm with rfl | hm
  · omega
  · have := h b hm; omega
theorem MlIn.nb {W : World} {m : Ml} {ab ah as_ : Option Addr} {nb cb nv nh ch ns cs nse sw : Nat} (h : MlIn W (.agg #[.slice ab nb cb, .int .u64 nv, .slice ah nh ch, .slice as_ ns cs, .int .u64 nse, .int .u64 sw]) m) : nb = m.boxes.length := by
  obtain ⟨vb, vh, vs, bs, e, hbs, hib, -, -⟩ := h
  obtain ⟨ab2, cb2, rfl, -⟩ := hib.1
  unfold mlVal at e
  have e1 := congrArg (fun v => match v with | .agg a => a[0]? | _ => none) e
  simp at e1
  rw [e1.2.1, ← hbs, List.length_map]
/-- two states, each in its block -/
def Ap7 (W : World) (MB TB : Nat) (m1 m2 : Ml) (wx : World) : Prop := ∃ C D : List Value, Zoo W wx [boxT TB D.toArray 27, boxT MB C.toArray 27] ∧ Stay (okL [MB, TB]) wx (fun x => MlIn x (.agg C.toArray) m1) ∧ Stay (okL [MB, TB]) wx (fun x => MlIn x (.agg D.toArray) m2)
theorem Ap7.below {W : World} {MB TB : Nat} {m1 m2 : Ml} {w w' : World} (h : Ap7 W MB TB m1 m2 w) (hb : Below w.heap.size w w') : Ap7 W MB TB m1 m2 w' := by
  obtain ⟨C, D, hz, hc, hd⟩ := h
  exact ⟨C, D, hz.below hb, hc.below hb, hd.below hb⟩
def zeroBx : List Value := [.string ⟨#[]⟩, .int .u64 0, .int .u64 0, .int .u64 0, .slice none 0 0]
/-- a mailbox that was found, in a block -/
def Fd (W : World) (m : Ml) (nm : ByteArray) (FB : Nat) (z : BxV) (wx : World) : Prop := z.b = (findM m nm).getD bx0.b ∧ wx.heap[FB]? = some (.cells (bxCells z).toArray 48 (0, 0)) ∧ LtsIn wx z.v z.rows ∧ Below W.heap.size W wx
end Go.Proofs.YtdobbfjmlnlieaaGreat
