/- Feed: bytes are taken one by one, and what is heard of them is told. -/
import Derived.Test.YtkocnldkimjonaaDoorLinD
import Derived.Deep.AppendLies
import Derived.Deep.RegionLaw
import Derived.Deep.CutRange
import Derived.WalkMore
import Derived.Deep.DeepCutAuto
namespace Go.Proofs.YtkocnldkimjonaaDoor
open Go.RowKit

/-- the cells of things heard -/
def heardCells (l : List (Nat × List UInt8)) : List Value := l.flatMap fun x => [.int .i64 (x.1 : Int), .string ⟨x.2.toArray⟩]
/-- v is a slice of the call's own (from block B on) that holds the things heard -/
def OwnHeards (w : World) (B : Nat) (v : Value) (l : List (Nat × List UInt8)) : Prop := w.ownsRow B 45 2 v l.length (heardCells l)
/-- a feeder's text with one byte more, ahead of the store -/
structure Grew (B : Nat) (wr : World) (a : Option Addr) (st : FS) (ch : UInt8) (g1 cap : Nat) (w1 : World) : Prop where
  own : OwnBytes w1 B 5 (.slice (some ⟨g1, 0, none⟩) (st.text ++ [ch]).length cap) (st.text ++ [ch])
  os : w1.os = wr.os
  tape : w1.tape = wr.tape
  output : w1.output = wr.output
  size : wr.heap.size ≤ w1.heap.size
  block : ∀ k, k < wr.heap.size → (∀ d, a = some d → d.block ≠ k) → w1.heap[k]? = wr.heap[k]?
  lies : (∃ d, a = some d ∧ d.block = g1) ∨ wr.heap.size ≤ g1
theorem byte_info : (Tryd.prog.info? 5).map (fun i => (i.zero, i.size, i.bytes)) = some (some (.int .u8 0), 1, 1) := by kernel_rfl
theorem step_feed {ops : Array Oper} {o : Oper} {a : Act} {K : Act → World → Prop} {Q : Exit → Act → World → Prop} {E : Prop} {B b c : Nat} {wr wx : World} {ad : Option Addr} {st : FS} (hf : FeedAt B wr b ad c st) (hgd : o.guard = none) (s x : Operand)
    (ho : o.op = .call { callee := .builtin .append, args := #[s, x], argTypes := #[48, 48] }) (ch : UInt8) (hB : B ≤ wr.heap.size)
    (hh : wx.heap = (wr.alloc (.cells #[.int .u8 ch.toNat] 5)).heap) (hos : wx.os = wr.os) (htp : wx.tape = wr.tape) (hout : wx.output = wr.output)
    (hs : a.eval s = .slice ad st.text.length c) (hx : a.eval x = .slice (some ⟨wr.heap.size, 0, none⟩) 1 1) (hlen : st.text.length ≤ 9000)
    (h : ∀ g1 cap w1, Grew B wr ad st ch g1 cap w1 → w1.cell? ⟨b, 0, none⟩ = some (.slice ad st.text.length c) → w1.frozen? ⟨b, 0, none⟩ = false → K (a.put o.dst (.slice (some ⟨g1, 0, none⟩) (st.text.length + 1) cap)) w1) :
    if Region.wanted o (yielded ops a.tmps) = true then Oper.wp Tryd.prog o a wx K Q else E := by
  obtain ⟨i, hi0, hz, hz1, hz2⟩ := info_parts byte_info
  have hown : OwnBytes wx B 5 (.slice ad st.text.length c) st.text := (hf.own.alloc (.cells #[.int .u8 ch.toNat] 5)).of_block fun k _ => by rw [hh]
  have hsz : wx.heap.size = wr.heap.size + 1 := by rw [hh]; simp
  refine step_append_lies wx hgd s x 48 ho B 5 i (.int .u8 0) 1 1 Tryd.underlying48 hi0 hz hz1 hz2 rfl (by decide) _ st.text.length (Lib.byteCells st.text) hs hown ⟨wr.heap.size, 0, none⟩ 1 1 [.int .u8 ch.toNat] hx rfl ?_ ?_ (by decide) (by unfold maxLen; omega) (by omega) (by omega) _ rfl ?_
  · intro j u hj
    match j, hj with
    | 0, hj =>
      simp at hj; subst hj
      simp only [Addr.add_lit, World.cell?, hh, heap_alloc_new]
      rfl
  · intro u hu; simp at hu; subst hu; rfl
  · intro g1 cap w1 hown1 hg hat hlt
    have hkeep : ∀ k, k < wr.heap.size → (∀ d, ad = some d → d.block ≠ k) → w1.heap[k]? = wr.heap[k]? := fun k hk hd => by
      rw [hg.block k (by omega) (fun e => by
        cases ad with
        | none => simp [Value.ownBlock] at e
        | some d =>
          have : d.block = k := by simpa [Value.ownBlock] using e.symm
          exact hd d rfl this), hh]
      exact Below.heap_alloc _ _ _ hk
    have hb := hkeep b hf.lt hf.apart
    refine h g1 cap w1 ⟨?_, hg.os.trans hos, hg.tape.trans htp, hg.output.trans hout, by have := hg.size; omega, hkeep, ?_⟩ ((World.cell?_of_block (w := wr) hb).trans hf.cell.1) ((World.frozen?_of_block (w := wr) hb).trans (hf.free 0))
    · unfold OwnBytes
      rw [Lib.byteCells_append, List.length_append]
      simpa [Lib.byteCells] using hown1
    · rcases hat with h1 | h1
      · left
        cases ad with
        | none => simp [Value.ownBlock] at h1
        | some d => exact ⟨d, rfl, by simpa [Value.ownBlock] using h1⟩
      · right; omega
/-- in the middle of Feed: how the feeder stands, what was heard, and nothing else has turned -/
structure Run (B : Nat) (w : World) (b : Nat) (a0 : Option Addr) (v : Value) (wr : World) (st : FS) (hs : List (Nat × List UInt8)) : Prop where
  at_ : ∃ a c, FeedAt B wr b a c st ∧ (∀ d, a = some d → a0 = some d ∨ w.heap.size ≤ d.block) ∧ (∀ d k, a = some d → v.ownBlock = some k → d.block ≠ k)
  out : OwnHeards wr w.heap.size v hs
  kept : Kept b a0 w wr
/-- the same, the text not empty -/
structure Mid (B : Nat) (w : World) (b : Nat) (a0 : Option Addr) (v : Value) (wx : World) (st : FS) (hs : List (Nat × List UInt8)) (g1 cap : Nat) : Prop where
  feed : FeedAt B wx b (some ⟨g1, 0, none⟩) cap st
  new : a0 = some ⟨g1, 0, none⟩ ∨ w.heap.size ≤ g1
  apart : ∀ k, v.ownBlock = some k → g1 ≠ k
  out : OwnHeards wx w.heap.size v hs
  kept : Kept b a0 w wx
theorem Mid.run {B : Nat} {w : World} {b : Nat} {a0 : Option Addr} {v : Value} {wx : World} {st : FS} {hs : List (Nat × List UInt8)} {g1 cap : Nat} (h : Mid B w b a0 v wx st hs g1 cap) : Run B w b a0 v wx st hs :=
  ⟨⟨some ⟨g1, 0, none⟩, cap, h.feed, fun d hd => by cases hd; exact h.new, fun d k hd hk => by cases hd; exact h.apart k hk⟩, h.out, h.kept⟩
theorem OwnHeards.of_block {w w' : World} {B : Nat} {v : Value} {l : List (Nat × List UInt8)} (h : OwnHeards w B v l) (hb : ∀ k, v.ownBlock = some k → w'.heap[k]? = w.heap[k]?) : OwnHeards w' B v l := by
  rcases h with ⟨h1, h2 | ⟨g, cap, cur, rfl, hB, hg, r⟩⟩
  · exact ⟨h1, .inl h2⟩
  · exact ⟨h1, .inr ⟨g, cap, cur, rfl, hB, (hb g rfl).trans hg, r⟩⟩
theorem Kept.step {b : Nat} {a0 : Option Addr} {w wr w' : World} (h : Kept b a0 w wr) (hos : w'.os = wr.os) (htp : w'.tape = wr.tape) (hout : w'.output = wr.output) (hsz : wr.heap.size ≤ w'.heap.size) (hb : ∀ k, k < w.heap.size → k ≠ b → (∀ d, a0 = some d → d.block ≠ k) → w'.heap[k]? = wr.heap[k]?) : Kept b a0 w w' :=
  ⟨hos.trans h.os, htp.trans h.tape, hout.trans h.output, Nat.le_trans h.size hsz, fun k hk h1 h2 => (hb k hk h1 h2).trans (h.block k hk h1 h2)⟩
theorem Grew.mid {B : Nat} {w : World} {b : Nat} {a0 a : Option Addr} {v : Value} {wr w1 wx : World} {st : FS} {hs : List (Nat × List UInt8)} {c g1 cap : Nat} {ch : UInt8} (hr : Run B w b a0 v wr st hs) (hb : b < w.heap.size) (hf : FeedAt B wr b a c st) (hz : ∀ d, a = some d → d.off = 0 ∧ d.spot = none) (hnew : ∀ d, a = some d → a0 = some d ∨ w.heap.size ≤ d.block) (hap : ∀ d k, a = some d → v.ownBlock = some k → d.block ≠ k)
    (hg : Grew B wr a st ch g1 cap w1) (hh : wx.heap = (w1.setCell ⟨b, 0, none⟩ (.slice (some ⟨g1, 0, none⟩) (st.text.length + 1) cap)).heap) (hos : wx.os = w1.os) (htp : wx.tape = w1.tape) (hout : wx.output = w1.output) : Mid B w b a0 v wx { st with text := st.text ++ [ch] } hs g1 cap := by
  have hsz := hr.kept.size
  have hne : g1 ≠ b := by
    rcases hg.lies with ⟨d, h1, h2⟩ | h1
    · rw [← h2]; exact hf.apart d h1
    · omega
  have hsz1 := hg.size
  have hsx : wx.heap.size = w1.heap.size := by rw [hh]; simp [World.setCell]
  have hbl : ∀ k, k ≠ b → wx.heap[k]? = w1.heap[k]? := fun k hk => by rw [hh]; exact Below.heap_setCell _ _ _ _ hk
  refine ⟨⟨hf.low, ?_, ?_, fun d hd => by cases hd; exact hne⟩, ?_, ?_, ?_, ?_⟩
  · rw [hh]
    have h1 := hg.block b hf.lt hf.apart
    have h2 := hf.cells
    rw [h2] at h1
    simp [World.setCell, Array.getElem?_modify, h1]
  · exact hg.own.of_block fun k hk => by
      have : k = g1 := by simpa [Value.ownBlock] using hk.symm
      subst this
      exact hbl k hne
  · rcases hg.lies with ⟨d, h1, h2⟩ | h1
    · obtain ⟨h3, h4⟩ := hz d h1
      have h5 : d = ⟨g1, 0, none⟩ := by cases d; simp at h3 h4 h2; subst h3 h4 h2; rfl
      subst h5
      exact hnew _ h1
    · right; omega
  · intro k hk
    rcases hg.lies with ⟨d, h1, h2⟩ | h1
    · rw [← h2]; exact hap d k h1 hk
    · have := (World.ownsRow.lt hr.out k hk).2
      omega
  · refine hr.out.of_block fun k hk => ?_
    have h1 := World.ownsRow.lt hr.out k hk
    rw [hbl k (by omega)]
    exact hg.block k h1.2 (fun d hd => hap d k hd hk)
  · refine hr.kept.step (hos.trans hg.os) (htp.trans hg.tape) (hout.trans hg.output) (by omega) fun k hk h1 h2 => ?_
    rw [hbl k h1]
    refine hg.block k (by omega) fun d hd => ?_
    rcases hnew d hd with h3 | h3
    · exact h2 d h3
    · omega
theorem FeedAt.zero {B : Nat} {w : World} {b : Nat} {a : Option Addr} {c : Nat} {st : FS} (h : FeedAt B w b a c st) : ∀ d, a = some d → d.off = 0 ∧ d.spot = none := by
  rintro d rfl
  rcases h.own.2 with ⟨hv, _⟩ | ⟨g, cap, cur, hv, _⟩
  · cases hv
  · cases hv; exact ⟨rfl, rfl⟩
theorem Mid.turn {B : Nat} {w : World} {b : Nat} {a0 : Option Addr} {v : Value} {wx w2 : World} {st st2 : FS} {hs : List (Nat × List UInt8)} {g1 cap : Nat} (h : Mid B w b a0 v wx st hs g1 cap) (ht : st2.text = st.text)
    (hc : w2.heap[b]? = some (.cells #[.slice (some ⟨g1, 0, none⟩) st.text.length cap, .int .i64 st2.part, .int .i64 st2.left, .bool st2.deaf] 50 (0, 0))) (hb : b < w.heap.size) (ho : ∀ k, k ≠ b → w2.heap[k]? = wx.heap[k]?) (hsz : w2.heap.size = wx.heap.size) (hos : w2.os = wx.os) (htp : w2.tape = wx.tape) (hout : w2.output = wx.output) : Mid B w b a0 v w2 st2 hs g1 cap := by
  refine ⟨⟨h.feed.low, by rw [hc, ht], ?_, h.feed.apart⟩, h.new, h.apart, ?_, ?_⟩
  · rw [ht]
    exact h.feed.own.of_block fun k hk => by
      have : k = g1 := by simpa [Value.ownBlock] using hk.symm
      subst this
      exact ho k (h.feed.apart _ rfl)
  · exact h.out.of_block fun k hk => ho k (by have := (World.ownsRow.lt h.out k hk).1; omega)
  · exact h.kept.step hos htp hout (by omega) fun k _ h1 _ => ho k h1
theorem Run.clear {B : Nat} {w : World} {b : Nat} {a0 : Option Addr} {v : Value} {wx w2 : World} {st : FS} {hs : List (Nat × List UInt8)} (h : Run B w b a0 v wx st hs)
    (hc : w2.heap[b]? = some (.cells #[.slice none 0 0, .int .i64 0, .int .i64 st.left, .bool st.deaf] 50 (0, 0))) (hb : b < w.heap.size) (ho : ∀ k, k ≠ b → w2.heap[k]? = wx.heap[k]?) (hsz : w2.heap.size = wx.heap.size) (hos : w2.os = wx.os) (htp : w2.tape = wx.tape) (hout : w2.output = wx.output) : Run B w b a0 v w2 { st with text := [], part := 0 } hs := by
  obtain ⟨_, _, hf, _, _⟩ := h.at_
  refine ⟨⟨none, 0, ⟨hf.low, by rw [hc]; rfl, OwnBytes.nil _ _ _, (fun _ hd => by cases hd)⟩, (fun _ hd => by cases hd), (fun _ _ hd => by cases hd)⟩, ?_, ?_⟩
  · exact h.out.of_block fun k hk => ho k (by have := (World.ownsRow.lt h.out k hk).1; omega)
  · exact h.kept.step hos htp hout (by omega) fun k _ h1 _ => ho k h1
theorem Run.turn {B : Nat} {w : World} {b : Nat} {a0 : Option Addr} {v : Value} {wx w2 : World} {st st2 : FS} {hs : List (Nat × List UInt8)} (h : Run B w b a0 v wx st hs) (ht : st2.text = st.text)
    (hc : ∀ a c, wx.heap[b]? = some (.cells #[.slice a st.text.length c, .int .i64 st.part, .int .i64 st.left, .bool st.deaf] 50 (0, 0)) → w2.heap[b]? = some (.cells #[.slice a st.text.length c, .int .i64 st2.part, .int .i64 st2.left, .bool st2.deaf] 50 (0, 0))) (hb : b < w.heap.size) (ho : ∀ k, k ≠ b → w2.heap[k]? = wx.heap[k]?) (hsz : w2.heap.size = wx.heap.size) (hos : w2.os = wx.os) (htp : w2.tape = wx.tape) (hout : w2.output = wx.output) : Run B w b a0 v w2 st2 hs := by
  obtain ⟨a, c, hf, h1, h2⟩ := h.at_
  refine ⟨⟨a, c, ⟨hf.low, by rw [hc a c hf.cells, ht], ?_, hf.apart⟩, h1, h2⟩, ?_, ?_⟩
  · rw [ht]
    exact hf.own.of_block fun k hk => by
      cases a with
      | none => simp [Value.ownBlock] at hk
      | some d =>
        have : d.block = k := by simpa [Value.ownBlock] using hk
        subst this
        exact ho _ (hf.apart d rfl)
  · exact h.out.of_block fun k hk => ho k (by have := (World.ownsRow.lt h.out k hk).1; omega)
  · exact h.kept.step hos htp hout (by omega) fun k _ h1 _ => ho k h1
theorem Mid.heard {B : Nat} {w : World} {b : Nat} {a0 : Option Addr} {v : Value} {wx w2 : World} {st st2 : FS} {hs : List (Nat × List UInt8)} {g1 cap : Nat} (h : Mid B w b a0 v wx st hs g1 cap) (hb : b < w.heap.size) (hf : Feeds B b (some ⟨g1, 0, none⟩) wx w2 st2) : Run B w b a0 v w2 st2 hs := by
  obtain ⟨a', c', hfa, hfr⟩ := hf.at_
  have hsz := h.kept.size
  refine ⟨⟨a', c', hfa, fun d hd => ?_, fun d k hd hk => ?_⟩, ?_, ?_⟩
  · rcases hfr d hd with h1 | h1
    · cases h1; exact h.new
    · right; omega
  · rcases hfr d hd with h1 | h1
    · cases h1; exact h.apart k hk
    · have := (World.ownsRow.lt h.out k hk).2; omega
  · refine h.out.of_block fun k hk => ?_
    have h1 := World.ownsRow.lt h.out k hk
    exact hf.kept.block k h1.2 (by omega) (fun d hd => by cases hd; exact h.apart k hk)
  · refine h.kept.step hf.kept.os hf.kept.tape hf.kept.output hf.kept.size fun k hk h1 h2 => ?_
    refine hf.kept.block k (by omega) h1 fun d hd => ?_
    cases hd
    rcases h.new with h3 | h3
    · exact h2 _ h3
    · show g1 ≠ k; omega
theorem Run.append {B : Nat} {w : World} {b : Nat} {a0 : Option Addr} {v v2 : Value} {wx wy w2 : World} {st : FS} {hs hs2 : List (Nat × List UInt8)} (h : Run B w b a0 v wx st hs) (hb : b < w.heap.size) (hy : Below wx.heap.size wx wy) (hg : wy.grownBy w2 v.ownBlock) (ho : OwnHeards w2 w.heap.size v2 hs2) (hv : ∀ g, v2.ownBlock = some g → v.ownBlock = some g ∨ wx.heap.size ≤ g) : Run B w b a0 v2 w2 st hs2 := by
  obtain ⟨a, c, hf, hnew, hap⟩ := h.at_
  have hsz := h.kept.size
  have hys := hy.size
  have hbl : ∀ k, k < wx.heap.size → v.ownBlock ≠ some k → w2.heap[k]? = wx.heap[k]? := fun k hk hne => (hg.block k (by omega) (fun e => hne e.symm)).trans (hy.block k hk)
  have hvb : ∀ k, v.ownBlock = some k → w.heap.size ≤ k := fun k hk => (World.ownsRow.lt h.out k hk).1
  refine ⟨⟨a, c, ⟨hf.low, (hbl b hf.lt (fun e => by have := hvb b e; omega)).trans hf.cells, hf.own.of_block fun k hk => ?_, hf.apart⟩, hnew, fun d k hd hk => ?_⟩, ho, ?_⟩
  · cases a with
    | none => simp [Value.ownBlock] at hk
    | some d =>
      have : d.block = k := by simpa [Value.ownBlock] using hk
      subst this
      exact hbl _ (hf.text_lt d rfl).2 (fun e => hap d _ rfl e rfl)
  · rcases hv k hk with h1 | h1
    · exact hap d k hd h1
    · have := (hf.text_lt d hd).2; omega
  · exact h.kept.step (hg.os.trans hy.os) (hg.tape.trans hy.tape) (hg.output.trans hy.output) (by have := hg.size; omega) fun k hk _ _ => hbl k (by omega) (fun e => by have := hvb k e; omega)
theorem heard_info : (Tryd.prog.info? 45).map (fun i => (i.zero, i.size, i.bytes)) = some (some (.agg #[.int .i64 0, .string ⟨#[]⟩]), 2, 24) := by kernel_rfl
theorem heardCells_snoc (l : List (Nat × List UInt8)) (x : Nat × List UInt8) : heardCells (l ++ [x]) = heardCells l ++ [.int .i64 (x.1 : Int), .string ⟨x.2.toArray⟩] := by simp [heardCells]
theorem wpList_append_heard {w : World} {ops : Array Oper} {rest : List Oper} {o : Oper} {a : Act} {Q : Exit → Act → World → Prop} (hgd : o.guard = none) (s x : Operand)
    (ho : o.op = .call { callee := .builtin .append, args := #[s, x], argTypes := #[26, 26] }) (B : Nat) (v : Value) (l : List (Nat × List UInt8)) (g : Nat) (K : Nat) (T : ByteArray) (t : List UInt8) (ht : Hid (T.data.toList = t))
    (hs : a.eval s = v) (hx : a.eval x = .slice (some ⟨g, 0, none⟩) 1 1) (hown : OwnHeards w B v l) (h0 : w.cell? ⟨g, 0, none⟩ = some (.int .i64 K)) (h1 : w.cell? ⟨g, 1, none⟩ = some (.string T)) (hlen : l.length ≤ 1048577) (hbase : B ≤ w.heap.size)
    (h : ∀ v' w', OwnHeards w' B v' (l ++ [(K, t)]) → w.grownBy w' v.ownBlock → (∀ g, v'.ownBlock = some g → v.ownBlock = some g ∨ w.heap.size ≤ g) → wpList Tryd.prog ops Q rest (a.put o.dst v') w') : wpList Tryd.prog ops Q (o :: rest) a w := by
  obtain ⟨i, hi0, hz, hz1, hz2⟩ := info_parts heard_info
  have ht' := ht.out
  subst ht'
  refine wpList_append_lies w hgd s x 26 ho B 45 i _ 2 24 Tryd.underlying26 hi0 hz hz1 hz2 rfl (by decide) v l.length (heardCells l) hs hown ⟨g, 0, none⟩ 1 1 [.int .i64 K, .string T] hx rfl ?_ ?_ (by decide) (by unfold maxLen; omega) (by omega) hbase _ rfl ?_
  · intro j u hj
    match j, hj with
    | 0, hj => simp at hj; subst hj; simpa [Addr.add] using h0
    | 1, hj => simp at hj; subst hj; simpa [Addr.add] using h1
  · intro u hu; simp at hu; rcases hu with rfl | rfl <;> rfl
  · intro g1 cap w' hown1 hg hat hlt
    refine h _ _ ?_ hg (fun k hk => ?_)
    · unfold OwnHeards
      rw [heardCells_snoc, List.length_append]
      exact hown1
    · have : g1 = k := by simpa [Value.ownBlock] using hk
      subst this
      rcases hat with h2 | h2
      · exact .inl h2
      · right; omega
/-- what Feed hands back -/
def FeedRet (B : Nat) (b : Nat) (a0 : Option Addr) (w : World) (r : FS × List (Nat × List UInt8)) (e : Ending) (w' : World) : Prop := ∃ v, e = .returned v ∧ Run B w b a0 v w' (fin r.1) r.2
theorem Kept.ground {b : Nat} {a : Option Addr} {W0 w w' : World} (hk : Kept b a w w') (h0 : Below W0.heap.size W0 w) (hb : W0.heap.size ≤ b) (ha : ∀ d, a = some d → W0.heap.size ≤ d.block) : Below W0.heap.size W0 w' :=
  h0.trans ⟨hk.os, hk.tape, hk.output, hk.size, fun k hk' => hk.block k (by have := h0.size; omega) (by omega) (fun d hd => by have := ha d hd; omega)⟩
set_option maxRecDepth 100000 in
set_option maxHeartbeats 4000000 in
theorem feed_any (W0 w : World) (ht : Tab W0) (he : Errs W0) (h0 : Below W0.heap.size W0 w) (b : Nat) (a0 : Option Addr) (c0 : Nat) (st0 : FS) (h : FeedAt W0.heap.size w b a0 c0 st0) (hg : Good st0) (s : ByteArray) (hs : s.size ≤ 1048576) :
    Calls Tryd.prog 10 #[.pointer (some ⟨b, 0, none⟩), .string s] w (FeedRet W0.heap.size b a0 w (feedGo st0 s.data.toList)) := by
  have ha0 : ∀ d, a0 = some d → W0.heap.size ≤ d.block := fun d hd => (h.text_lt d hd).1
  replace ha0 := Lib.hid ha0
  have hbw := h.lt
  have hblow := h.low
  go_enter Tryd.func10, Tryd.ntmps10
  go_wp2_with fail
  go_step3
  go_wp2
  go_step3
  go_wp2
  go_loopw [5, 6] (fun v i wr => ∃ (k : Nat) (st : FS) (hs : List (Nat × List UInt8)), k ≤ s.size ∧ i = .int .i64 k ∧ Hid (feedGo st0 (s.data.toList.take k) = (st, hs)) ∧ Hid (Run W0.heap.size w b a0 v wr st hs)) (fun _ i _ => s.size - (intOf i).toNat)
  case atStart => exact ⟨0, st0, [], Nat.zero_le _, rfl, Lib.hid rfl, ⟨⟨a0, c0, h, fun d hd => .inl hd, fun _ _ _ hk => by simp [Value.ownBlock] at hk⟩, World.ownsRow_nil _ _ _ _, .of_below (Below.refl _ _)⟩⟩
  case round =>
    obtain ⟨k, st, hl, hk, rfl, hgo, hrun⟩ := hrel
    have hgood : Good st := by have := Good.go (s.data.toList.take k) hg; rw [hgo.out] at this; exact this
    by_cases hlt : k < s.size
    · obtain ⟨a, c, hf, hnew, hap⟩ := hrun.out.at_
      obtain ⟨d0, d1, d2, d3⟩ := hf.cell
      have e0 := hf.free 0
      have hB : W0.heap.size ≤ wr.heap.size := Nat.le_trans hf.low (Nat.le_of_lt hf.lt)
      have hbr := hf.lt
      have hl9 : st.text.length ≤ 9000 := by have := hgood.len; omega
      obtain ⟨R, hR⟩ : ∃ R : World → Prop, Hid (∀ wx, R wx ↔ ∃ g1 cap, Mid W0.heap.size w b a0 u5 wx { st with text := st.text ++ [s[k]] } hl g1 cap) := ⟨_, Lib.hid fun _ => Iff.rfl⟩
      have hmid : Hid (∀ (g1 cap : Nat) (w1 wx : World), Grew W0.heap.size wr a st s[k] g1 cap w1 → wx.heap = (w1.setCell ⟨b, 0, none⟩ (.slice (some ⟨g1, 0, none⟩) (st.text.length + 1) cap)).heap → wx.os = w1.os → wx.tape = w1.tape → wx.output = w1.output → R wx) := fun g1 cap w1 wx h1 h2 h3 h4 h5 => (hR.out wx).2 ⟨g1, cap, h1.mid hrun.out hbw hf hf.zero hnew hap h2 h3 h4 h5⟩
      replace hgood := Lib.hid hgood
      replace hf := Lib.hid hf
      clear hnew hap
      go_wp2_with fail
      go_cut [] (fun wx => R wx)
      case first =>
        go_region_law (refine step_feed hf.out rfl (.tmp 19) (.tmp 23) rfl s[k] hB rfl rfl rfl rfl (by simp [Act.eval]) (by simp [Act.eval]) hl9 ?_; intro g1 cap w1 hgr d0' e0')
        all_goals
          replace hgr := Lib.hid hgr
          apply_assumption
          go_meet
          exact hmid.out _ _ _ _ hgr.out rfl rfl rfl rfl
      case rest =>
        obtain ⟨g1, cap, hm⟩ := (hR.out _).1 hcut
        have hgd := hgood.out
        obtain ⟨S, hS⟩ : ∃ S : FS, S = { st with text := st.text ++ [s[k]] } := ⟨_, rfl⟩
        rw [← hS] at hm
        have q1 : S.part < S.text.length := by have := hgd.part; rw [hS]; simp; omega
        have q2 : S.text.length ≤ 8194 := by have := hgd.len; rw [hS]; simp; omega
        have q3 : S.left ≤ 4096 := by rw [hS]; exact hgd.left
        have hnext : Hid (S.deaf = false → feedGo st0 (s.data.toList.take (k + 1)) = ((feedS S).1, hl ++ (feedS S).2)) := fun hd => by
          rw [take_snoc s k hlt, feedGo_snoc _ _ _ (by rw [hgo.out]; rw [hS] at hd; exact hd), hgo.out, feed1_eq, ← hS]
        have hlast : Hid (S.deaf = true → feedGo st0 s.data.toList = (st, hl) ∧ fin st = { S with text := [], part := 0 }) := fun hd => by
          have hd' : st.deaf = true := by rw [hS] at hd; exact hd
          constructor
          · rw [← List.take_append_drop k s.data.toList, feedGo_app, hgo.out, feedGo_deaf _ _ hd']; simp
          · rw [hS, fin, hd']; rfl
        have hhl : hl.length ≤ 1048576 := by
          have := feedGo_len (s.data.toList.take k) st0
          rw [hgo.out, List.length_take] at this
          simp only at this
          omega
        have hcs := hm.feed.cells
        obtain ⟨x0, x1, x2, x3⟩ := hm.feed.cell
        have y0 := hm.feed.free 0
        have y1 := hm.feed.free 1
        have y2 := hm.feed.free 2
        have y3 := hm.feed.free 3
        replace hm := Lib.hid hm
        replace hcs := Lib.hid hcs
        clear hmid hcut hR d0 d1 d2 d3 e0 hl9 hgood hgd hS hf hgo hrun
        cases hd : S.deaf
        · rw [hd] at x3
          by_cases hle : 0 < S.left
          · by_cases h1 : S.left = 1
            · have hv : feedS S = ({ S with left := 0, part := S.text.length }, []) := by simp [feedS, h1]
              replace hv := Lib.hid hv
              rw [h1] at x2
              go_wp2_with fail
              go_roundw
              case rel =>
                exact ⟨k + 1, _, _, by omega, by go_num, Lib.hid (hnext.out hd), Lib.hid (by
                  rw [hv.out, List.append_nil]
                  refine Mid.run (hm.out.turn rfl ?_ hbw (fun k hk => ?_) ?_ rfl rfl rfl)
                  · simp [World.setCell, Array.getElem?_modify, hcs.out, hd]
                  · simp [World.setCell, Array.getElem?_modify, Ne.symm hk]
                  · simp [World.setCell])⟩
              case measure => simp [intOf]; omega
            · obtain ⟨m, hm1⟩ : ∃ m, S.left = m + 1 := ⟨S.left - 1, by omega⟩
              have hv : feedS S = ({ S with left := m }, []) := by simp [feedS, hm1, show ¬ m = 0 by omega]
              replace hv := Lib.hid hv
              have hm0 : ¬ m = 0 := by omega
              have hm4 : m ≤ 4096 := by omega
              rw [hm1] at x2
              replace hm1 := Lib.hid hm1
              clear hle h1 q3
              go_wp2_with fail
              go_roundw
              case rel =>
                exact ⟨k + 1, _, _, by omega, by go_num, Lib.hid (hnext.out hd), Lib.hid (by
                  rw [hv.out, List.append_nil]
                  refine Mid.run (hm.out.turn rfl ?_ hbw (fun k hk => ?_) ?_ rfl rfl rfl)
                  · simp [World.setCell, Array.getElem?_modify, hcs.out, hd]
                  · simp [World.setCell, Array.getElem?_modify, Ne.symm hk]
                  · simp [World.setCell])⟩
              case measure => simp [intOf]; omega
          · have hl0 : S.left = 0 := by omega
            rw [hl0] at x2
            have hq : ∀ n, Mid W0.heap.size w b a0 u5 (wc.drewN n) S hl g1 cap := fun n => hm.out.turn rfl (by simpa using hcs.out) hbw (fun _ _ => rfl) rfl rfl rfl rfl
            replace hq := Lib.hid hq
            replace hl0 := Lib.hid hl0
            clear hle q3
            go_wp2_with fail
            refine (ends_any _ _ b g1 cap S hm.out.feed q1 (by omega)).mono ?_
            rintro e w2 ⟨rfl, n, rfl⟩
            cases hE : endsL S
            · by_cases hA : (1000 : Int) ≤ (S.text.length : Int) - (S.part : Int) ∨ (8192 : Int) ≤ (S.text.length : Int)
              · have hv : feedS S = ({ S with deaf := true }, [(4, [])]) := by
                  simp only [feedS, hl0.out, hE]
                  simp
                  omega
                replace hv := Lib.hid hv
                by_cases h1 : (1000 : Int) ≤ (S.text.length : Int) - (S.part : Int)
                case' pos => have hA1 : decide ((1000 : Int) ≤ (S.text.length : Int) - (S.part : Int)) = true := decide_eq_true h1
                case' neg =>
                  have hA1 : decide ((1000 : Int) ≤ (S.text.length : Int) - (S.part : Int)) = false := decide_eq_false h1
                  have hA2 : decide ((8192 : Int) ≤ (S.text.length : Int)) = true := decide_eq_true (by omega)
                all_goals
                  clear hA h1
                  have hm2 := hq.out n
                  clear x0 x1 x2 x3 y0 y1 y2 y3 hcs hm hq hl0
                  generalize wc.drewN n = w2 at hm2 ⊢
                  have hcs := hm2.feed.cells
                  obtain ⟨x0, x1, x2, x3⟩ := hm2.feed.cell
                  have hq : ∀ n, Mid W0.heap.size w b a0 u5 (w2.drewN n) S hl g1 cap := fun n => hm2.turn rfl (by simpa using hcs) hbw (fun _ _ => rfl) rfl rfl rfl rfl
                  replace hq := Lib.hid hq
                  replace hm2 := Lib.hid hm2
                  replace hcs := Lib.hid hcs
                  rw [hd] at x3
                  go_wp2_with fail
                  go_quiet (fail)
                  have hr3 := Lib.hid (hq.out nq).run
                  generalize w2.drewN nq = w3 at hr3 ⊢
                  have hsz3 : w.heap.size ≤ w3.heap.size := hr3.out.kept.size
                  go_wp2_with (at_builtin; refine wpList_append_heard rfl (.tmp 86) (.tmp 88) rfl w.heap.size u5 hl w3.heap.size 4 ⟨#[]⟩ [] (Lib.hid rfl) rfl rfl (hr3.out.out.of_block fun k hk => Below.heap_alloc _ _ _ (World.ownsRow.lt hr3.out.out k hk).2) (by go_simp) (by go_simp) (by omega) (by simp; omega) ?_)
                  intro v4 w4 ho4 hg4 hv4
                  have hfin := hr3.out.append hbw (below_alloc _ _) hg4 ho4 (fun g hg => by
                    rcases hv4 g hg with h | h
                    · exact .inl h
                    · right; have : w3.heap.size + 1 ≤ g := by simpa using h
                      omega)
                  obtain ⟨a4, c4, hf4, _, _⟩ := hfin.at_
                  obtain ⟨x40, x41, x42, x43⟩ := hf4.cell
                  have y43 := hf4.free 3
                  rw [hd] at x43
                  replace hfin := Lib.hid hfin
                  clear ho4 hg4 hv4 hf4
                  go_wp2_with fail
                  go_roundw
                  case rel =>
                    exact ⟨k + 1, _, _, by omega, by go_num, Lib.hid (hnext.out hd), Lib.hid (by
                      rw [hv.out]
                      refine hfin.out.turn rfl (fun a c hc => ?_) hbw (fun k hk => ?_) ?_ rfl rfl rfl
                      · simp [World.setCell, Array.getElem?_modify, hc]
                      · simp [World.setCell, Array.getElem?_modify, Ne.symm hk]
                      · simp [World.setCell])⟩
                  case measure => simp [intOf]; omega
              · have hv : feedS S = (S, []) := by
                  simp only [feedS, hl0.out, hE]
                  simp
                  omega
                replace hv := Lib.hid hv
                have hA1 : decide ((1000 : Int) ≤ (S.text.length : Int) - (S.part : Int)) = false := decide_eq_false (by omega)
                have hA2 : decide ((8192 : Int) ≤ (S.text.length : Int)) = false := decide_eq_false (by omega)
                clear hA
                have hm2 := hq.out n
                clear x0 x1 x2 x3 y0 y1 y2 y3 hcs hm hq hl0
                generalize wc.drewN n = w2 at hm2 ⊢
                have hcs := hm2.feed.cells
                obtain ⟨x0, x1, x2, x3⟩ := hm2.feed.cell
                have hq : ∀ n, Mid W0.heap.size w b a0 u5 (w2.drewN n) S hl g1 cap := fun n => hm2.turn rfl (by simpa using hcs) hbw (fun _ _ => rfl) rfl rfl rfl rfl
                replace hq := Lib.hid hq
                replace hm2 := Lib.hid hm2
                replace hcs := Lib.hid hcs
                rw [hd] at x3
                go_wp2_with fail
                go_quiet (fail)
                go_wp2_with fail
                go_roundw
                case rel =>
                  exact ⟨k + 1, _, _, by omega, by go_num, Lib.hid (hnext.out hd), Lib.hid (by
                    rw [hv.out, List.append_nil]
                    exact (hq.out _).run)⟩
                case measure => simp [intOf]; omega
            · have hv : feedS S = ((heardL S).1, [(heardL S).2]) := by simp [feedS, hl0.out, hE]
              have hbel : Below W0.heap.size W0 (wc.drewN n) := (hq.out n).kept.ground h0 hblow ha0.out
              replace hv := Lib.hid hv
              replace hbel := Lib.hid hbel
              go_wp2_with fail
              refine (heard_any _ _ (ht.later hbel.out) (he.later hbel.out) b g1 cap S (hq.out n).feed (endsL_two hE) (by omega)).mono ?_
              rintro e w3 ⟨T, rfl, hT, hfe⟩
              have hr3 := Lib.hid ((hq.out n).heard hbw hfe)
              have hsz3 : w.heap.size ≤ w3.heap.size := hr3.out.kept.size
              obtain ⟨K, hK⟩ : ∃ K, Hid (K = (heardL S).2.1) := ⟨_, Lib.hid rfl⟩
              rw [← hK.out]
              clear hfe
              go_wp2_with (at_builtin; refine wpList_append_heard rfl (.tmp 61) (.tmp 64) rfl w.heap.size u5 hl w3.heap.size K T _ hT rfl rfl (hr3.out.out.of_block fun k hk => Below.heap_alloc _ _ _ (World.ownsRow.lt hr3.out.out k hk).2) (by go_simp) (by go_simp) (by omega) (by simp; omega) ?_)
              intro v4 w4 ho4 hg4 hv4
              have hfin := Lib.hid (hr3.out.append hbw (below_alloc _ _) hg4 ho4 (fun g hg => by
                rcases hv4 g hg with h | h
                · exact .inl h
                · right; have : w3.heap.size + 1 ≤ g := by simpa using h
                  omega))
              clear ho4 hg4 hv4
              go_wp2_with fail
              go_roundw
              case rel =>
                exact ⟨k + 1, _, _, by omega, by go_num, Lib.hid (hnext.out hd), Lib.hid (by
                  rw [hv.out]
                  have := hfin.out
                  rw [hK.out] at this
                  exact this)⟩
              case measure => simp [intOf]; omega
        · have hl1 := Lib.hid (hlast.out hd)
          rw [hd] at x3
          go_wp2_with fail
          rw [Exit.noGoto_ret]
          go_ret
          refine ⟨_, rfl, ?_⟩
          rw [hl1.out.1]
          show Run _ _ _ _ u5 _ (fin st) hl
          rw [hl1.out.2]
          refine hm.out.run.clear ?_ hbw (fun k hk => ?_) ?_ rfl rfl rfl
          · simp [World.setCell, Array.getElem?_modify, hcs.out]
          · simp [World.setCell, Array.getElem?_modify, Ne.symm hk]
          · simp [World.setCell]
    · have hall : feedGo st0 s.data.toList = (st, hl) := by
        rw [show k = s.size by omega, take_all] at hgo
        exact hgo.out
      obtain ⟨a, c, hf, _, _⟩ := hrun.out.at_
      obtain ⟨d0, d1, d2, d3⟩ := hf.cell
      have e0 := hf.free 0
      have e1 := hf.free 1
      have hcs := Lib.hid hf.cells
      replace hall := Lib.hid hall
      clear hf
      cases hd : st.deaf
      · rw [hd] at d3
        go_wp2_with fail
        rw [Exit.noGoto_ret]
        go_ret
        refine ⟨_, rfl, ?_⟩
        rw [hall.out]
        show Run _ _ _ _ u5 _ (fin st) hl
        rw [fin_eq hd]
        exact hrun.out
      · rw [hd] at d3
        go_wp2_with fail
        rw [Exit.noGoto_ret]
        go_ret
        refine ⟨_, rfl, ?_⟩
        rw [hall.out]
        show Run _ _ _ _ u5 _ (fin st) hl
        rw [show fin st = { st with text := [], part := 0 } by rw [fin, hd]; rfl]
        refine hrun.out.clear ?_ hbw (fun k hk => ?_) ?_ rfl rfl rfl
        · simp [World.setCell, Array.getElem?_modify, hcs.out]
        · simp [World.setCell, Array.getElem?_modify, Ne.symm hk]
        · simp [World.setCell]
end Go.Proofs.YtkocnldkimjonaaDoor
