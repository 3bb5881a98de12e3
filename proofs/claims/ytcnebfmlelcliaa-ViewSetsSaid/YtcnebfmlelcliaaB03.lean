/- Small plain lemmas on blocks, boxes, texts; a text cut at a byte; rows of ranges and of numbers. Has of both, Pick of both: walked. The document's Has; Pick of both; the document's Same: walked. nothing of its own The work of a request, as things in memory; sweep, look, end: walked. Atoms: the loops over a text that ask a byte predicate; the world is as it was. 'Upper', of the program and of the document: each byte in great letters; new memory alone is written. Small letters: 'small' of the layer flag; new memory alone is written. Sets as sorted lists, over any strict total order; plain, no program. Flags in plain lists: as they are kept, and their order. 'set' of the layer flag: a list is copied, sorted, and each kept once: the sorted set of its texts. Canon, of the program and of the document: a flag as it is kept. -/
import Derived.Test.YtcnebfmlelcliaaProg
import Derived.Test.YtcnebfmlelcliaaChecked
import Derived.BigCall
import Derived.BigGuard
import Derived.Laws.Closers25
import Derived.Laws.Closers25b
import Derived.Laws.Strings3
import Derived.Lib.AppendIntMem
import Derived.Lib.ItoaLen
import Derived.Lib.ItoaMem
import Derived.Lib.Strings
import Derived.Lib.Walk
import Derived.Test.YtcnebfmlelcliaaB01
import Derived.Lib.Split
import Derived.Lib.SplitLaws
import Derived.Lib.IndexBytes
import Derived.RangeFuncBox
import Derived.BigQuiet
import Derived.Deep.QuietTactic
import Derived.Laws.EntriesVeiled
import Derived.Lib.MinMax
import Derived.Test.YtcnebfmlelcliaaB02
import Derived.Test.YtcnebfmlelcliaaRows
import Derived.Lib.Bytealg
import Derived.Lib.SlicesCompact
import Derived.WideShapes
import Derived.WideAt
import Derived.Sort.Grow
import Derived.Sort.EncStr
namespace Go.Proofs.Ytcnebfmlelcliaa
open Go.RowKit

def encStr (l : List UInt8) : Value := .string ⟨l.toArray⟩
theorem boxed_below {W W' : World} {B : Nat} {t : TypeId} {v : Value} (h : Boxed W B t v) (hb : Below W.heap.size W W') : Boxed W' B t v := (hb.block B h.lt).trans h
theorem heap_below {W W' : World} {b : Nat} {o : Obj} (h : W.heap[b]? = some o) (hb : Below W.heap.size W W') : W'.heap[b]? = some o := (hb.block b (Array.getElem?_eq_some_iff.1 h).1).trans h
theorem cells_new (w : World) (C : Array Value) (t : TypeId) : (w.alloc (.cells C t)).heap[w.heap.size]? = some (.cells C t (0, 0)) := heap_alloc_new w _
/-! ranges in memory: two cells each -/
abbrev Rng := Nat × Nat
/-- the ranges lie in v, in a block below B -/
def RangesIn (w : World) (B : Nat) (v : Value) (rs : List Rng) : Prop := ∃ ao cap, v = .slice ao rs.length cap ∧ (rs = [] ∨ ∃ b o, ao = some ⟨b, o, none⟩ ∧ b < B ∧ rs.length ≤ cap ∧ ∀ j, (h : j < rs.length) → w.cell? ⟨b, o + j * 2, none⟩ = some (.int .u64 rs[j].1) ∧ w.cell? ⟨b, o + j * 2 + 1, none⟩ = some (.int .u64 rs[j].2))
theorem RangesIn.later {w w' : World} {B : Nat} {v : Value} {rs : List Rng} (h : RangesIn w B v rs) (hb : Below B w w') : RangesIn w' B v rs := by
  obtain ⟨ao, cap, hv, h | ⟨b, o, ha, hlt, hle, hc⟩⟩ := h
  · exact ⟨ao, cap, hv, .inl h⟩
  · exact ⟨ao, cap, hv, .inr ⟨b, o, ha, hlt, hle, fun j hj => ⟨(hb.cell (p := ⟨b, o + j * 2, none⟩) hlt).trans (hc j hj).1, (hb.cell (p := ⟨b, o + j * 2 + 1, none⟩) hlt).trans (hc j hj).2⟩⟩⟩
theorem RangesIn.mono {w : World} {B B' : Nat} {v : Value} {rs : List Rng} (h : RangesIn w B v rs) (hb : B ≤ B') : RangesIn w B' v rs := by
  obtain ⟨ao, cap, hv, h | ⟨b, o, ha, hlt, hle, hc⟩⟩ := h
  · exact ⟨ao, cap, hv, .inl h⟩
  · exact ⟨ao, cap, hv, .inr ⟨b, o, ha, by omega, hle, hc⟩⟩
theorem RangesIn.on {w w' : World} {v : Value} {rs : List Rng} (h : RangesIn w w.heap.size v rs) (hb : Below w.heap.size w w') : RangesIn w' w'.heap.size v rs := (h.later hb).mono hb.size
def rngCells (r : Rng) : List Value := [.int .u64 r.1, .int .u64 r.2]
def rangesCells (rs : List Rng) : List Value := rs.flatMap rngCells
theorem rangesCells_len : ∀ (rs : List Rng), (rangesCells rs).length = rs.length * 2
  | [] => rfl
  | k :: r => by
    have := rangesCells_len r
    unfold rangesCells at this ⊢
    rw [List.flatMap_cons, List.length_append, this, List.length_cons]
    show 2 + _ = _
    omega
theorem rangesCells_app (a b : List Rng) : rangesCells (a ++ b) = rangesCells a ++ rangesCells b := List.flatMap_append
theorem rangesCells_get : ∀ (rs : List Rng) (j : Nat) (hj : j < rs.length) (r : Nat), r < 2 → (rangesCells rs)[j * 2 + r]? = (rngCells rs[j])[r]?
  | k :: l, 0, _, r, hr => by
    unfold rangesCells
    rw [List.flatMap_cons, List.getElem?_append_left (by show _ < 2; omega)]
    simp
  | k :: l, j + 1, hj, r, hr => by
    have := rangesCells_get l j (by simpa using hj) r hr
    unfold rangesCells at this ⊢
    rw [List.flatMap_cons, List.getElem?_append_right (by show 2 ≤ _; omega), List.getElem_cons_succ, ← this]
    congr 1
    show (j + 1) * 2 + r - 2 = _
    omega
theorem rangesCells_one : ∀ (rs : List Rng), ∀ u ∈ rangesCells rs, u.oneCell' = true := fun rs u hu => by
  obtain ⟨k, _, hk⟩ := List.mem_flatMap.1 hu
  simp only [rngCells, List.mem_cons, List.not_mem_nil, or_false] at hk
  rcases hk with rfl | rfl <;> rfl
/-- v holds the ranges rs, in a row of the call's own from block B on -/
def OwnR (w : World) (B : Nat) (v : Value) (rs : List Rng) : Prop := w.ownsRow B 57 2 v rs.length (rangesCells rs)
theorem OwnR.nil (w : World) (B : Nat) : OwnR w B (.slice none 0 0) [] := World.ownsRow_nil _ _ _ _
theorem OwnR.alloc {w : World} {B : Nat} {v : Value} {rs : List Rng} (h : OwnR w B v rs) (o : Obj) : OwnR (w.alloc o) B v rs := World.ownsRow.alloc h o
theorem OwnR.below {w w' : World} {B : Nat} {v : Value} {rs : List Rng} (h : OwnR w B v rs) (hb : Below w.heap.size w w') : OwnR w' B v rs :=
  World.ownsRow.kept (row := none) h ⟨hb.os, hb.tape, hb.output, hb.size, fun k hk _ => hb.block k hk⟩ (by cases hv : v.ownBlock <;> simp)
theorem OwnR.len {w : World} {B : Nat} {v : Value} {rs : List Rng} (h : OwnR w B v rs) : ∃ a c, v = .slice a rs.length c := by
  rcases h.2 with ⟨rfl, hn⟩ | ⟨g, cap, cur, rfl, _⟩
  · exact ⟨none, 0, by rw [hn]⟩
  · exact ⟨_, _, rfl⟩
theorem rng_info : (Try.prog.info? 57).map (fun i => (i.zero, i.size, i.bytes)) = some (some (.agg #[.int .u64 0, .int .u64 0]), 2, 16) := by kernel_rfl
theorem Rd.ranges {w : World} {v : Value} {rs : List Rng} (h : Rd w v rs.length (rangesCells rs)) : RangesIn w w.heap.size v rs := by
  obtain ⟨ao, cap, hv, h⟩ := h
  refine ⟨ao, cap, hv, ?_⟩
  rcases h with h | ⟨b, o, ha, hlt, hle, hc⟩
  · exact .inl (List.eq_nil_of_length_eq_zero h)
  · refine .inr ⟨b, o, ha, hlt, hle, fun j hj => ?_⟩
    have g := fun r (hr : r < 2) u (hu : (rngCells rs[j])[r]? = some u) => hc (j * 2 + r) u (by rw [rangesCells_get rs j hj r hr]; exact hu)
    exact ⟨g 0 (by decide) _ rfl, g 1 (by decide) _ rfl⟩
theorem RangesIn.rd {w : World} {v : Value} {rs : List Rng} (h : RangesIn w w.heap.size v rs) : Rd w v rs.length (rangesCells rs) := by
  obtain ⟨ao, cap, hv, h⟩ := h
  refine ⟨ao, cap, hv, ?_⟩
  rcases h with h | ⟨b, o, ha, hlt, hle, hc⟩
  · exact .inl (by rw [h]; rfl)
  · refine .inr ⟨b, o, ha, hlt, hle, fun i u hu => ?_⟩
    have hi : i < rs.length * 2 := by
      have := (List.getElem?_eq_some_iff.1 hu).1
      rwa [rangesCells_len] at this
    obtain ⟨j, r, hr, rfl⟩ : ∃ j r, r < 2 ∧ i = j * 2 + r := ⟨i / 2, i % 2, Nat.mod_lt _ (by decide), by omega⟩
    have hj : j < rs.length := by omega
    rw [rangesCells_get rs j hj r hr] at hu
    obtain ⟨h0, h1⟩ := hc j hj
    match r, hr with
    | 0, _ => rw [← Option.some.inj hu]; exact h0
    | 1, _ => rw [← Option.some.inj hu]; exact h1
theorem OwnR.ranges {w : World} {B : Nat} {v : Value} {rs : List Rng} (h : OwnR w B v rs) : RangesIn w w.heap.size v rs := Rd.ranges (Rd.of_own h)
theorem OwnR.one (w : World) (x y : Nat) : OwnR (w.alloc (.cells #[.int .u64 x, .int .u64 y] 57)) w.heap.size (.slice (some ⟨w.heap.size, 0, none⟩) 1 1) [(x, y)] :=
  ⟨rfl, .inr ⟨w.heap.size, 1, _, rfl, Nat.le_refl _, heap_alloc_new w _, Nat.le_refl _, by unfold maxLen; omega, rfl, rfl⟩⟩
/-- 'append(v, u...)' of ranges -/
theorem wpList_append_ranges {w : World} {ops : Array Oper} {rest : List Oper} {o : Oper} {a : Act} {Q : Exit → Act → World → Prop} (hgd : o.guard = none) (s x : Operand)
    (ho : o.op = .call { callee := .builtin .append, args := #[s, x], argTypes := #[29, 29] }) (B : Nat) (v v2 : Value) (l m : List Rng)
    (hs : a.eval s = v) (hx : a.eval x = v2) (hown : OwnR w B v l) (h2 : Rd w v2 m.length (rangesCells m)) (hlen : (l.length + m.length) * 16 ≤ 140737488355328) (hbase : B ≤ w.heap.size)
    (h : ∀ v' w', OwnR w' B v' (l ++ m) → Below B w w' → wpList Try.prog ops Q rest (a.put o.dst v') w') : wpList Try.prog ops Q (o :: rest) a w := by
  refine wpList_append_rd hgd s x 29 ho B 57 _ 2 16 Try.underlying29 rng_info rfl (by decide) v v2 l.length m.length (rangesCells l) (rangesCells m) hs hx hown h2 (rangesCells_len m) (rangesCells_one m) (by unfold maxLen; omega) hlen hbase ?_
  intro v' w' ho' hg' _
  refine h v' w' ?_ ((Below.refl B w).grown hg' hbase (fun k hk => (World.ownsRow.lt hown k hk).1))
  unfold OwnR
  rw [List.length_append, rangesCells_app]
  exact ho'
/-- 'append(v, Range{x, y})' -/
theorem wpList_append_range {W : World} {ops : Array Oper} {rest : List Oper} {o : Oper} {a : Act} {Q : Exit → Act → World → Prop} (hgd : o.guard = none) (s x : Operand)
    (ho : o.op = .call { callee := .builtin .append, args := #[s, x], argTypes := #[29, 29] }) (B : Nat) (v : Value) (l : List Rng) (p q : Nat)
    (hs : a.eval s = v) (hx : a.eval x = .slice (some ⟨W.heap.size, 0, none⟩) 1 1) (hown : OwnR W B v l) (hlen : (l.length + 1) * 16 ≤ 140737488355328) (hbase : B ≤ W.heap.size)
    (h : ∀ v' w', OwnR w' B v' (l ++ [(p, q)]) → Below B W w' → wpList Try.prog ops Q rest (a.put o.dst v') w') :
    wpList Try.prog ops Q (o :: rest) a (W.alloc (.cells #[.int .u64 p, .int .u64 q] 57)) :=
  wpList_append_ranges hgd s x ho B v _ l [(p, q)] hs hx (hown.alloc _) (Rd.of_own (OwnR.one W p q)) (by simpa using hlen) (by simp; omega) (fun v' w' ho' hb' => h v' w' ho' (((Below.refl B W).alloc hbase _).trans hb'))
/-! numbers in memory -/
def encU (n : Nat) : Value := .int .u64 (n : Int)
def OwnN (w : World) (B : Nat) (v : Value) (ns : List Nat) : Prop := w.ownsRow B 22 1 v ns.length (ns.map encU)
theorem OwnN.nil (w : World) (B : Nat) : OwnN w B (.slice none 0 0) [] := World.ownsRow_nil _ _ _ _
theorem OwnN.alloc {w : World} {B : Nat} {v : Value} {ns : List Nat} (h : OwnN w B v ns) (o : Obj) : OwnN (w.alloc o) B v ns := World.ownsRow.alloc h o
theorem OwnN.below {w w' : World} {B : Nat} {v : Value} {ns : List Nat} (h : OwnN w B v ns) (hb : Below w.heap.size w w') : OwnN w' B v ns :=
  World.ownsRow.kept (row := none) h ⟨hb.os, hb.tape, hb.output, hb.size, fun k hk _ => hb.block k hk⟩ (by cases hv : v.ownBlock <;> simp)
theorem OwnN.len {w : World} {B : Nat} {v : Value} {ns : List Nat} (h : OwnN w B v ns) : ∃ a c, v = .slice a ns.length c := by
  rcases h.2 with ⟨rfl, hn⟩ | ⟨g, cap, cur, rfl, _⟩
  · exact ⟨none, 0, by rw [hn]⟩
  · exact ⟨_, _, rfl⟩
theorem OwnN.rd {w : World} {B : Nat} {v : Value} {ns : List Nat} (h : OwnN w B v ns) : Rd w v ns.length (ns.map encU) := Rd.of_own h
theorem u64_info : (Try.prog.info? 22).map (fun i => (i.zero, i.size, i.bytes)) = some (some (.int .u64 0), 1, 8) := by kernel_rfl
theorem OwnN.one (w : World) (x : Nat) : OwnN (w.alloc (.cells #[.int .u64 x] 22)) w.heap.size (.slice (some ⟨w.heap.size, 0, none⟩) 1 1) [x] :=
  ⟨rfl, .inr ⟨w.heap.size, 1, _, rfl, Nat.le_refl _, heap_alloc_new w _, Nat.le_refl _, by unfold maxLen; omega, rfl, rfl⟩⟩
/-- 'append(v, u...)' of numbers -/
theorem wpList_append_nums {w : World} {ops : Array Oper} {rest : List Oper} {o : Oper} {a : Act} {Q : Exit → Act → World → Prop} (hgd : o.guard = none) (s x : Operand)
    (ho : o.op = .call { callee := .builtin .append, args := #[s, x], argTypes := #[30, 30] }) (B : Nat) (v v2 : Value) (l m : List Nat)
    (hs : a.eval s = v) (hx : a.eval x = v2) (hown : OwnN w B v l) (h2 : Rd w v2 m.length (m.map encU)) (hlen : (l.length + m.length) * 8 ≤ 140737488355328) (hbase : B ≤ w.heap.size)
    (h : ∀ v' w', OwnN w' B v' (l ++ m) → Below B w w' → wpList Try.prog ops Q rest (a.put o.dst v') w') : wpList Try.prog ops Q (o :: rest) a w := by
  refine wpList_append_rd hgd s x 30 ho B 22 _ 1 8 Try.underlying30 u64_info rfl (by decide) v v2 l.length m.length (l.map encU) (m.map encU) hs hx hown h2 (by simp) (fun u hu => ?_) (by unfold maxLen; omega) hlen hbase ?_
  · obtain ⟨z, _, rfl⟩ := List.mem_map.1 hu; rfl
  intro v' w' ho' hg' _
  refine h v' w' ?_ ((Below.refl B w).grown hg' hbase (fun k hk => (World.ownsRow.lt hown k hk).1))
  unfold OwnN
  rw [List.length_append, List.map_append]
  exact ho'
/-- 'append(v, n)' -/
theorem wpList_append_num {W : World} {ops : Array Oper} {rest : List Oper} {o : Oper} {a : Act} {Q : Exit → Act → World → Prop} (hgd : o.guard = none) (s x : Operand)
    (ho : o.op = .call { callee := .builtin .append, args := #[s, x], argTypes := #[30, 30] }) (B : Nat) (v : Value) (l : List Nat) (p : Nat)
    (hs : a.eval s = v) (hx : a.eval x = .slice (some ⟨W.heap.size, 0, none⟩) 1 1) (hown : OwnN W B v l) (hlen : (l.length + 1) * 8 ≤ 140737488355328) (hbase : B ≤ W.heap.size)
    (h : ∀ v' w', OwnN w' B v' (l ++ [p]) → Below B W w' → wpList Try.prog ops Q rest (a.put o.dst v') w') :
    wpList Try.prog ops Q (o :: rest) a (W.alloc (.cells #[.int .u64 p] 22)) :=
  wpList_append_nums hgd s x ho B v _ l [p] hs hx (hown.alloc _) (Rd.of_own (OwnN.one W p)) (by simpa using hlen) (by simp; omega) (fun v' w' ho' hb' => h v' w' ho' (((Below.refl B W).alloc hbase _).trans hb'))
/-! texts in memory -/
def OwnTq (w : World) (B : Nat) (v : Value) (l : List (List UInt8)) : Prop := w.ownsRow B 9 1 v l.length (l.map encStr)
theorem OwnTq.nil (w : World) (B : Nat) : OwnTq w B (.slice none 0 0) [] := World.ownsRow_nil _ _ _ _
theorem OwnTq.alloc {w : World} {B : Nat} {v : Value} {l : List (List UInt8)} (h : OwnTq w B v l) (o : Obj) : OwnTq (w.alloc o) B v l := World.ownsRow.alloc h o
theorem OwnTq.rd {w : World} {B : Nat} {v : Value} {l : List (List UInt8)} (h : OwnTq w B v l) : Rd w v l.length (l.map encStr) := Rd.of_own h
theorem OwnTq.below {w w' : World} {B : Nat} {v : Value} {l : List (List UInt8)} (h : OwnTq w B v l) (hb : Below w.heap.size w w') : OwnTq w' B v l :=
  World.ownsRow.kept (row := none) h ⟨hb.os, hb.tape, hb.output, hb.size, fun k hk _ => hb.block k hk⟩ (by cases hv : v.ownBlock <;> simp)
theorem OwnTq.len {w : World} {B : Nat} {v : Value} {l : List (List UInt8)} (h : OwnTq w B v l) : ∃ a c, v = .slice a l.length c := by
  rcases h.2 with ⟨rfl, hn⟩ | ⟨g, cap, cur, rfl, _⟩
  · exact ⟨none, 0, by rw [hn]⟩
  · exact ⟨_, _, rfl⟩
theorem OwnTq.one (w : World) (u : ByteArray) : OwnTq (w.alloc (.cells #[.string u] 9)) w.heap.size (.slice (some ⟨w.heap.size, 0, none⟩) 1 1) [u.data.toList] :=
  ⟨rfl, .inr ⟨w.heap.size, 1, _, rfl, Nat.le_refl _, heap_alloc_new w _, Nat.le_refl _, by unfold maxLen; omega, rfl, rfl⟩⟩
end Go.Proofs.Ytcnebfmlelcliaa
namespace Go.Proofs.Ytcnebfmlelcliaa
open Go.RowKit

def realI (most k : Int) : Int := if k = 0 then most else k
/-- one range of a set: does it hold n -/
def hasOne (most n : Nat) (r : Nat × Nat) : Bool := decide (min (realI most r.1) (realI most r.2) ≤ (n : Int)) && decide ((n : Int) ≤ max (realI most r.1) (realI most r.2))
def hasL (rs : List (Nat × Nat)) (most n : Nat) : Bool := rs.any (hasOne most n)
structure HasMem (W : World) (M N C : Nat) (most n : Nat) : Prop where
  bm : Boxed W M 22 (.int .u64 most)
  bn : Boxed W N 22 (.int .u64 n)
  bc : Boxed W C 68 (.func (.func 45) #[] #[.pointer (some ⟨M, 0, none⟩)])
theorem HasMem.later {W W' : World} {M N C most n : Nat} (h : HasMem W M N C most n) (hb : Below W.heap.size W W') : HasMem W' M N C most n := ⟨boxed_below h.bm hb, boxed_below h.bn hb, boxed_below h.bc hb⟩
set_option maxHeartbeats 1000000 in
theorem real_any (k : Int) (M most : Nat) (w : World) (hM : Boxed w M 22 (.int .u64 most)) :
    Calls Try.prog 45 #[.int .u64 k, .pointer (some ⟨M, 0, none⟩)] w fun e w' => e = .returned (.int .u64 (realI most k)) ∧ w' = w := by
  have cM := hM.cell
  by_cases h : k = 0
  · have hr : realI most k = most := if_pos h
    rw [hr]
    have h0 : (k == 0) = true := by rw [h]; rfl
    clear hr hM
    go_enter Try.func45, Try.ntmps45
    go_wp2_with fail
    go_ret
    exact ⟨rfl, rfl⟩
  · have hr : realI most k = k := if_neg h
    rw [hr]
    have h0 : (k == 0) = false := beq_eq_false_iff_ne.2 h
    clear hr hM cM
    go_enter Try.func45, Try.ntmps45
    go_wp2_with fail
    go_ret
    exact ⟨rfl, rfl⟩
set_option maxRecDepth 100000 in
set_option maxHeartbeats 2000000 in
theorem hasOne_any (r : Nat × Nat) (M N C most n : Nat) (w : World) (hM : HasMem w M N C most n) :
    Calls Try.prog 46 #[.agg #[.int .u64 r.1, .int .u64 r.2], .pointer (some ⟨C, 0, none⟩), .pointer (some ⟨N, 0, none⟩)] w fun e w' => e = .returned (.bool (hasOne most n r)) ∧ Hid (Below w.heap.size w w') := by
  obtain ⟨f, t⟩ := r
  dsimp only
  have hb := (Below.refl _ w).alloc (Nat.le_refl _) (.cells #[.int .u64 f, .int .u64 t] 57)
  have hM1 := hM.later hb
  have hf := Lib.hid (fun n => real_any f M most ((w.alloc (.cells #[.int .u64 f, .int .u64 t] 57)).drewN n) hM1.bm)
  have ht := Lib.hid (fun n => real_any t M most ((w.alloc (.cells #[.int .u64 f, .int .u64 t] 57)).drewN n) hM1.bm)
  have cN := hM1.bn.cell
  have cC := hM1.bc.cell
  have hv : Hid (hasOne most n (f, t) = (decide (min (realI most f) (realI most t) ≤ (n : Int)) && decide ((n : Int) ≤ max (realI most f) (realI most t)))) := Lib.hid rfl
  replace hb := Lib.hid hb
  clear hM hM1
  generalize realI most f = a at hf hv
  generalize realI most t = b at ht hv
  by_cases h1 : min a b ≤ (n : Int)
  · rw [decide_eq_true h1, Bool.true_and] at hv
    go_enter Try.func46, Try.ntmps46
    go_wp2_with fail
    go_quiet ((go_at_call 45; first | exact Calls.quiet_of_same (hf.out _) | exact Calls.quiet_of_same (ht.out _)))
    go_wp2_with fail
    go_ret
    exact ⟨by rw [hv.out]; rfl, Lib.hid (below_drewN hb.out _)⟩
  · rw [decide_eq_false h1, Bool.false_and] at hv
    go_enter Try.func46, Try.ntmps46
    go_wp2_with fail
    go_quiet ((go_at_call 45; first | exact Calls.quiet_of_same (hf.out _) | exact Calls.quiet_of_same (ht.out _)))
    go_wp2_with fail
    go_ret
    exact ⟨by rw [hv.out]; rfl, Lib.hid (below_drewN hb.out _)⟩
set_option maxRecDepth 100000 in
set_option maxHeartbeats 2000000 in
theorem hasIdx_any (rs : List (Nat × Nat)) (v : Value) (M N C most n : Nat) (w : World) (hl : rs.length ≤ 9223372036854775807) (hM : HasMem w M N C most n) (hk : RangesIn w w.heap.size v rs) :
    Calls Try.prog 44 #[v, .func (.func 46) #[] #[.pointer (some ⟨C, 0, none⟩), .pointer (some ⟨N, 0, none⟩)]] w fun e w' => ∃ r : Int, e = .returned (.int .i64 r) ∧ Hid (decide (0 ≤ r) = hasL rs most n) ∧ Hid (Below w.heap.size w w') := by
  have hk0 := Lib.hid hk
  have hwa := Lib.hid hasOne_any
  obtain ⟨ao, cap, rfl, _⟩ := hk
  replace hM := Lib.hid hM
  go_enter Try.func44, Try.ntmps44
  go_wp2_with fail
  go_loopw [8] (fun v8 wr => ∃ q : Nat, v8 = .int .i64 q ∧ q ≤ rs.length ∧ Hid ((rs.take q).any (hasOne most n) = false) ∧ Hid (Below w.heap.size w wr)) (fun v8 _ => rs.length - (intOf v8).toNat)
  case atStart => exact ⟨0, rfl, Nat.zero_le _, Lib.hid rfl, Lib.hid (Below.refl _ _)⟩
  case round =>
    obtain ⟨q, rfl, hq, hno, hb⟩ := hrel
    by_cases hlt : q < rs.length
    · obtain ⟨ao', cap', hv, hk | ⟨b, o, hao, hbB, hcap, hcells⟩⟩ := hk0.out.later hb.out
      · rw [hk] at hlt; simp at hlt
      · cases hv
        subst hao
        have hc := hcells q hlt
        have hstep : (rs.take (q + 1)).any (hasOne most n) = hasOne most n rs[q] := by rw [List.take_succ_eq_append_getElem hlt, List.any_append, hno.out]; simp
        have hyes : hasOne most n rs[q] = true → rs.any (hasOne most n) = true := fun h => List.any_eq_true.2 ⟨_, List.getElem_mem hlt, h⟩
        have hcall := Lib.hid (hwa.out rs[q] M N C most n wr (hM.out.later hb.out))
        generalize rs[q] = k at hc hstep hyes hcall
        obtain ⟨c0, c1⟩ := hc
        clear hcells
        cases hB : hasOne most n k
        · rw [hB] at hcall hstep
          replace hstep := Lib.hid hstep
          replace hyes := Lib.hid hyes
          replace hB := Lib.hid hB
          go_wp2_with fail
          refine hcall.out.mono ?_
          rintro e w3 ⟨rfl, hb3⟩
          have hb4 := Lib.hid (hb.out.trans (hb3.out.mono hb.out.size))
          clear hcall hb3 c0 c1
          go_wp2_with fail
          go_roundw
          case rel => exact ⟨q + 1, by go_num, by omega, hstep, hb4⟩
          case measure => simp [intOf] <;> omega
        · rw [hB] at hcall
          have hyy := Lib.hid (hyes hB)
          replace hB := Lib.hid hB
          clear hstep hyes
          go_wp2_with fail
          refine hcall.out.mono ?_
          rintro e w3 ⟨rfl, hb3⟩
          have hb4 := Lib.hid (hb.out.trans (hb3.out.mono hb.out.size))
          clear hcall hb3 c0 c1
          go_wp2_with fail
          go_ret
          exact ⟨q, rfl, Lib.hid (by rw [hasL, hyy.out]; exact decide_eq_true (by omega)), hb4⟩
    · obtain rfl : q = rs.length := by omega
      rw [List.take_length] at hno
      go_wp2_with fail
      go_ret
      exact ⟨-1, rfl, Lib.hid (by rw [hasL, hno.out]; rfl), hb⟩
set_option maxHeartbeats 2000000 in
/-- Has tells whether a set holds a number -/
theorem seqHas_any (rs : List (Nat × Nat)) (v : Value) (most n : Nat) (w : World) (hl : rs.length ≤ 9223372036854775807) (hk : RangesIn w w.heap.size v rs) :
    Calls Try.prog 31 #[v, .int .u64 most, .int .u64 n] w fun e w' => e = .returned (.bool (hasL rs most n)) ∧ Below w.heap.size w w' := by
  have hc : Hid (∀ (M N C : Nat) (W : World), HasMem W M N C most n → RangesIn W W.heap.size v rs → Calls Try.prog 29 #[v, .func (.func 46) #[] #[.pointer (some ⟨C, 0, none⟩), .pointer (some ⟨N, 0, none⟩)]] W fun e w' => e = .returned (.bool (hasL rs most n)) ∧ Hid (Below W.heap.size W w')) := Lib.hid (fun M N C W hM hk => by
    have hi := Lib.hid (hasIdx_any rs v M N C most n W hl hM hk)
    obtain ⟨ao, cap, rfl, _⟩ := hk
    clear hM
    go_enter Try.func29, Try.ntmps29
    go_wp2_with fail
    refine hi.out.mono ?_
    rintro e w1 ⟨r, rfl, hr, hb⟩
    go_wp2_with fail
    go_ret
    exact ⟨by rw [← hr.out]; rfl, hb⟩)
  have hk0 := Lib.hid hk
  obtain ⟨ao, cap, rfl, _⟩ := hk
  obtain ⟨W1, hW1⟩ : ∃ W1, W1 = w.alloc (.cells #[.int .u64 most] 22) := ⟨_, rfl⟩
  obtain ⟨W2, hW2⟩ : ∃ W2, W2 = W1.alloc (.cells #[.int .u64 n] 22) := ⟨_, rfl⟩
  obtain ⟨W3, hW3⟩ : ∃ W3, W3 = W2.alloc (.cells #[.func (.func 45) #[] #[.pointer (some ⟨w.heap.size, 0, none⟩)]] 68) := ⟨_, rfl⟩
  have s1 : W1.heap.size = w.heap.size + 1 := by rw [hW1]; simp
  have s2 : W2.heap.size = w.heap.size + 1 + 1 := by rw [hW2]; simp [s1]
  have m1 : Boxed W1 w.heap.size 22 (.int .u64 most) := by rw [hW1]; exact cells_new w _ _
  have m2 : Boxed W2 (w.heap.size + 1) 22 (.int .u64 n) := by rw [hW2, ← s1]; exact cells_new W1 _ _
  have m3 : Boxed W3 (w.heap.size + 1 + 1) 68 (.func (.func 45) #[] #[.pointer (some ⟨w.heap.size, 0, none⟩)]) := by rw [hW3, ← s2]; exact cells_new W2 _ _
  have b1 : Below w.heap.size w W1 := by rw [hW1]; exact (Below.refl _ w).alloc (Nat.le_refl _) _
  have b2 : Below W1.heap.size W1 W2 := by rw [hW2]; exact (Below.refl _ W1).alloc (Nat.le_refl _) _
  have b3 : Below W2.heap.size W2 W3 := by rw [hW3]; exact (Below.refl _ W2).alloc (Nat.le_refl _) _
  have bw : Below w.heap.size w W3 := (b1.trans (b2.mono b1.size)).trans (b3.mono (Nat.le_trans b1.size b2.size))
  have hM3 : HasMem W3 w.heap.size (w.heap.size + 1) (w.heap.size + 1 + 1) most n := ⟨boxed_below (boxed_below m1 b2) b3, boxed_below m2 b3, m3⟩
  have hk3 : RangesIn W3 W3.heap.size (.slice ao rs.length cap) rs := by
    obtain ⟨ao', cap', hv, h | ⟨b, o, ha, hlt, hle, hc⟩⟩ := hk0.out.later bw
    · exact ⟨ao', cap', hv, .inl h⟩
    · exact ⟨ao', cap', hv, .inr ⟨b, o, ha, Nat.lt_of_lt_of_le hlt bw.size, hle, hc⟩⟩
  have hcall := hc.out _ _ _ W3 hM3 hk3
  rw [hW3, hW2, hW1] at hcall bw
  replace hcall := Lib.hid hcall
  replace bw := Lib.hid bw
  clear hc hk0 hM3 hk3 m1 m2 m3 b1 b2 b3 s1 s2 hW3 hW2 hW1
  go_enter Try.func31, Try.ntmps31
  go_wp2_with fail
  refine hcall.out.mono ?_
  rintro e w1 ⟨rfl, hb⟩
  have hb9 := Lib.hid (bw.out.trans (hb.out.mono bw.out.size))
  clear hb bw hcall
  go_wp2_with fail
  go_ret
  exact ⟨rfl, hb9.out⟩
/-! the document's Has -/
end Go.Proofs.Ytcnebfmlelcliaa
namespace Go.Proofs.Ytcnebfmlelcliaa
open Go.RowKit

theorem num_cell {w : World} {b o k : Nat} {l : List Nat} (hc : ∀ i u, (l.map encU)[i]? = some u → w.cell? ⟨b, o + i, none⟩ = some u) (hk : k < l.length) : w.cell? ⟨b, o + k, none⟩ = some (.int .u64 (l[k] : Nat)) := hc k _ (by rw [List.getElem?_map, List.getElem?_eq_getElem hk]; rfl)
set_option maxRecDepth 100000 in
set_option maxHeartbeats 4000000 in
theorem sameNums_any (va vb : Value) (a b : List Nat) (w : World) (ha : Rd w va a.length (a.map encU)) (hb : Rd w vb b.length (b.map encU)) (hl : a.length ≤ 9223372036854775807) :
    Calls Try.prog 16 #[va, vb] w fun e w' => e = .returned (.bool (decide (a = b))) ∧ Below w.heap.size w w' := by
  have ha0 := Lib.hid ha
  have hb0 := Lib.hid hb
  obtain ⟨ao, cap, rfl, -⟩ := ha
  obtain ⟨ao2, cap2, rfl, -⟩ := hb
  by_cases hlen : a.length = b.length
  · go_enter Try.func16, Try.ntmps16
    rw [← hlen]
    have hne : ((a.length : Int) != (a.length : Int)) = false := by simp
    have hlen0 := Lib.hid hlen
    clear hlen
    go_wp2_with fail
    go_loopw [5] (fun v5 wr => ∃ q : Nat, v5 = .int .i64 q ∧ q ≤ a.length ∧ Hid (a.take q = b.take q) ∧ Hid (Below w.heap.size w wr)) (fun v5 _ => a.length - (intOf v5).toNat)
    case atStart => exact ⟨0, rfl, Nat.zero_le _, Lib.hid rfl, Lib.hid (Below.refl _ _)⟩
    case round =>
      obtain ⟨q, rfl, hq, heq, hbl⟩ := hrel
      by_cases hlt : q < a.length
      · have hlt2 : q < b.length := by rw [← hlen0.out]; exact hlt
        obtain ⟨b1, o1, hao, hbl1, hcell1⟩ := ha0.out.at_pos (by omega)
        obtain ⟨b2, o2, hao2, hbl2, hcell2⟩ := hb0.out.at_pos (by omega)
        subst hao hao2
        have c1 := (hbl.out.cell (p := ⟨b1, o1 + q, none⟩) hbl1).trans (num_cell hcell1 hlt)
        have c2 := (hbl.out.cell (p := ⟨b2, o2 + q, none⟩) hbl2).trans (num_cell hcell2 hlt2)
        have hstep : a[q] = b[q] → a.take (q + 1) = b.take (q + 1) := fun h => by rw [List.take_succ_eq_append_getElem hlt, List.take_succ_eq_append_getElem hlt2, heq.out, h]
        have hdiff : a[q] ≠ b[q] → decide (a = b) = false := fun h => decide_eq_false (fun e => h (by subst e; rfl))
        generalize a[q] = x at c1 hstep hdiff
        generalize b[q] = y at c2 hstep hdiff
        clear hcell1 hcell2 hlt2
        have hbW := Lib.hid (fun m => below_drewN hbl.out m)
        have hi0 : (0 : Int) ≤ (q : Int) := by omega
        have hi1 : (q : Int) < (a.length : Int) := by omega
        by_cases hxy : x = y
        · have hs := Lib.hid (hstep hxy)
          have hn : ((x : Int) != (y : Int)) = false := by rw [hxy]; simp
          clear hstep hdiff hxy
          go_wp2_with fail
          go_quiet (fail)
          go_wp2_with fail
          go_roundw
          case rel => exact ⟨q + 1, by go_num, by omega, hs, Lib.hid (hbW.out _)⟩
          case measure => simp [intOf] <;> omega
        · have hd := Lib.hid (hdiff hxy)
          have hn : ((x : Int) != (y : Int)) = true := by rw [bne_iff_ne]; omega
          clear hstep hdiff hxy
          go_wp2_with fail
          go_quiet (fail)
          go_wp2_with fail
          go_ret
          exact ⟨by rw [hd.out]; rfl, hbW.out _⟩
      · obtain rfl : q = a.length := by omega
        have hd : Hid (decide (a = b) = true) := Lib.hid (decide_eq_true (by
          have h := heq.out
          rw [List.take_length] at h
          rw [h, hlen0.out, List.take_length]))
        go_wp2_with fail
        go_ret
        exact ⟨by rw [hd.out]; rfl, hbl.out⟩
  · have hn : ((a.length : Int) != (b.length : Int)) = true := by rw [bne_iff_ne]; omega
    have hd : Hid (decide (a = b) = false) := Lib.hid (decide_eq_false (fun e => hlen (by rw [e])))
    clear hlen
    go_enter Try.func16, Try.ntmps16
    go_wp2_with fail
    go_ret
    exact ⟨by rw [hd.out]; rfl, Below.refl _ _⟩
end Go.Proofs.Ytcnebfmlelcliaa

namespace Go.Proofs.Ytcnebfmlelcliaa
set_option linter.unusedSimpArgs false
open Go.RowKit
attribute [local go_sem ↓] Go.wp_at_zero Go.wp_at_succ

structure Rq where
  op : Int
  session : Nat
  number : Nat
  node : Int
  life : Nat
  try_ : Nat
  box : ByteArray
  to_ : ByteArray
  validity : Nat
  uids : List (Nat × Nat)
  flags : List (List UInt8)
  how : Int
  has : Bool
  since : Nat
  hash : ByteArray
  size : Nat
  sweeps : Nat
structure Oc where
  code : Int
  session : Nat
  validity : Nat
  uids : List Nat
  mods : List Nat
def u64T : RT Nat where
  enc := fun n => [.int .u64 n]
  K := 1
  t := 22
  ts := 30
  z := .int .u64 0
  bytes := 8
  len := fun _ => rfl
  one := fun x u hu => by simp at hu; subst hu; rfl
  pos := by decide
  und := Try.underlying30
  info := by kernel_rfl
  zs := rfl
  bb := by decide
/-- where a request's slices lie -/
structure RqV where
  au : Option Addr
  cu : Nat
  af : Option Addr
  cf : Nat
def rqCells (q : Rq) (y : RqV) : List Value := [.int .i64 q.op, .int .u64 q.session, .int .u64 q.number, .int .i64 q.node, .int .u64 q.life, .int .u64 q.try_, .string q.box, .string q.to_, .int .u64 q.validity, .slice y.au q.uids.length y.cu, .slice y.af q.flags.length y.cf, .int .i64 q.how, .bool q.has, .int .u64 q.since, .string q.hash, .int .u64 q.size, .int .u64 q.sweeps]
def RqIn (W : World) (q : Rq) (y : RqV) : Prop := RangesIn W W.heap.size (.slice y.au q.uids.length y.cu) q.uids ∧ FlIn W (.slice y.af q.flags.length y.cf) q.flags
theorem RqIn.below {W W' : World} {q : Rq} {y : RqV} (h : RqIn W q y) (hb : Below W.heap.size W W') : RqIn W' q y := ⟨h.1.on hb, Rd.below h.2 hb⟩
/-- where the parts of a work lie -/
structure WkV where
  ab : Option Addr
  cb : Nat
  ah : Option Addr
  ch : Nat
  as_ : Option Addr
  cs : Nat
  aU : Option Addr
  cU : Nat
  aM : Option Addr
  cM : Nat
  bs : List BxV
  S : List (Value × List (List UInt8))
def WkOk (k : WkV) (m : Ml) : Prop := k.bs.map BxV.b = m.boxes ∧ HasB k.S k.bs
section
variable {W0 W : World} {L : List Th}
theorem front_perm {α : Type} : ∀ (L : List α) (i : Nat) (hi : i < L.length), L.Perm (L[i] :: L.eraseIdx i)
  | _ :: _, 0, _ => List.Perm.refl _
  | x :: L, i + 1, hi => ((front_perm L i (by simpa using hi)).cons x).trans (List.Perm.swap _ _ _)
theorem Zoo.back {b : Th} (i : Nat) (hi : i < L.length) (h : Zoo W0 W (b :: L.eraseIdx i)) : Zoo W0 W (L.set i b) := by
  refine h.perm ?_
  have := front_perm (L.set i b) i (by rw [List.length_set]; exact hi)
  rw [List.getElem_set_self, List.eraseIdx_set_eq] at this
  exact this.symm
end
end Go.Proofs.Ytcnebfmlelcliaa
namespace Go.Proofs.Ytcnebfmlelcliaa
open Go.RowKit

set_option maxHeartbeats 400000 in
set_option maxHeartbeats 400000 in
def allB (p : Int → Bool) (l : List UInt8) : Bool := l.all fun c => p c.toNat
theorem allB_snoc (p : Int → Bool) (l : List UInt8) (c : UInt8) : allB p (l ++ [c]) = (allB p l && p c.toNat) := by
  simp [allB]
theorem allB_false (p : Int → Bool) (s : ByteArray) (k : Nat) (h : k < s.size) (hp : p s[k].toNat = false) : allB p s.data.toList = false := by
  rw [← List.take_append_drop (k + 1) s.data.toList, take_snoc s k h]
  simp [allB, hp]
/-- 'all' says: at least one byte, and p of each. -/
def allS (p : Int → Bool) (l : List UInt8) : Bool := allB p l && !l.isEmpty

def inL (c : Int) (l : List UInt8) : Bool := l.any fun d => (d.toNat : Int) == c
theorem inL_snoc (c : Int) (l : List UInt8) (d : UInt8) : inL c (l ++ [d]) = (inL c l || ((d.toNat : Int) == c)) := by simp [inL]
theorem inL_true (c : Int) (s : ByteArray) (k : Nat) (h : k < s.size) (hp : ((s[k].toNat : Int) == c) = true) : inL c s.data.toList = true := by
  rw [← List.take_append_drop (k + 1) s.data.toList, take_snoc s k h]
  simp only [inL, List.any_append, List.any_cons, hp]; simp
set_option maxHeartbeats 400000 in
theorem in_any (c : Int) (s : ByteArray) (hs : s.size ≤ maxLen) (w : World) :
    Calls Try.prog 68 #[.int .u8 c, .string s] w fun e w' => e = .returned (.bool (inL c s.data.toList)) ∧ w = w' := by
  unfold maxLen at hs
  go_enter Try.func68, Try.ntmps68
  go_wp2_with fail
  go_loop [5] (fun i => ∃ k : Nat, k ≤ s.size ∧ i = .int .i64 k ∧ Hid (inL c (s.data.toList.take k) = false)) (fun i => s.size - (intOf i).toNat)
  case atStart => exact ⟨0, Nat.zero_le _, rfl, rfl⟩
  case round =>
    obtain ⟨k, hk, rfl, hp⟩ := hrel
    by_cases hlt : k < s.size
    · have hsn : Hid (inL c (s.data.toList.take (k+1)) = ((s[k].toNat : Int) == c)) := by
        show _ = _
        rw [take_snoc s k hlt, inL_snoc, hp.out]; simp
      cases hc : ((s[k].toNat : Int) == c)
      · go_wp2_with fail
        refine ⟨⟨k + 1, by omega, by go_num, hsn.out.trans hc⟩, by simp [intOf]; omega⟩
      · go_wp2_with fail
        go_ret
        exact ⟨ret_bool (inL_true c s k hlt hc).symm, rfl⟩
    · obtain rfl : k = s.size := by omega
      go_wp2_with fail
      go_ret
      rw [take_all] at hp
      exact ⟨ret_bool hp.out.symm, rfl⟩

/-! the byte predicates of atoms and of mailboxes' names -/
def atomB (c : Int) : Bool := decide (32 < c) && (decide (c < 127) && !inL c [40, 41, 123, 37, 42, 34, 92, 93])
def boxB (c : Int) : Bool := decide (32 ≤ c) && (decide (c < 127) && !inL c [37, 42, 34, 92])
set_option maxHeartbeats 400000 in
theorem atomByte_any (c : Int) (w : World) :
    Calls Try.prog 92 #[.int .u8 c] w fun e w' => e = .returned (.bool (atomB c)) ∧ w = w' := by
  go_enter Try.func92, Try.ntmps92
  go_wp2_with (go_at_call 68; refine (in_any _ _ (by decide) _).mono ?_; rintro e w' ⟨rfl, rfl⟩)
  all_goals (go_ret; exact ⟨ret_bool (by unfold atomB; generalize inL c _ = b; cases b <;> simp <;> omega), rfl⟩)
set_option maxHeartbeats 400000 in
theorem refAtom_any (s : ByteArray) (hs : s.size ≤ maxLen) (w : World) :
    Calls Try.prog 84 #[.string s] w fun e w' => e = .returned (.bool (allS atomB s.data.toList)) ∧ w = w' := by
  unfold maxLen at hs
  go_enter Try.func84, Try.ntmps84
  go_wp2_with fail
  go_loop [3] (fun i => ∃ k : Nat, k ≤ s.size ∧ i = .int .i64 k ∧ Hid (allB atomB (s.data.toList.take k) = true)) (fun i => s.size - (intOf i).toNat)
  case atStart => exact ⟨0, Nat.zero_le _, rfl, rfl⟩
  case round =>
    obtain ⟨k, hk, rfl, hp⟩ := hrel
    by_cases hlt : k < s.size
    · have hsn : Hid (allB atomB (s.data.toList.take (k+1)) = atomB s[k].toNat) := by
        show _ = _
        rw [take_snoc s k hlt, allB_snoc, hp.out]; simp
      go_wp2_with fail
      refine (atomByte_any _ _).mono ?_
      rintro e w' ⟨rfl, rfl⟩
      cases hc : atomB ↑s[k].toNat
      · go_wp2_with fail
        go_ret
        exact ⟨ret_bool (by simp [allS, allB_false atomB s k hlt hc]), rfl⟩
      · go_wp2_with fail
        refine ⟨⟨k + 1, by omega, by go_num, hsn.out.trans hc⟩, by simp [intOf]; omega⟩
    · obtain rfl : k = s.size := by omega
      go_wp2_with fail
      go_ret
      rw [take_all] at hp
      exact ⟨ret_bool (by have := hp.out; (first | rw [size_pos_bool] | rw [size_pos_boolI]); simp [allS, this]), rfl⟩
end Go.Proofs.Ytcnebfmlelcliaa
namespace Go.Proofs.Ytcnebfmlelcliaa
open Go.RowKit

def upB (c : UInt8) : UInt8 := if 97 ≤ c.toNat ∧ c.toNat ≤ 122 then c - 32 else c
def upL (l : List UInt8) : List UInt8 := l.map upB
theorem upL_snoc (l : List UInt8) (c : UInt8) : upL (l ++ [c]) = upL l ++ [upB c] := by simp [upL]
theorem upB_yes (c : UInt8) (h1 : 97 ≤ (c.toNat : Int)) (h2 : (c.toNat : Int) ≤ 122) : ((upB c).toNat : Int) = c.toNat - 32 := by
  have : (c - 32).toNat = c.toNat - 32 := UInt8.toNat_sub_of_le _ _ (by show 32 ≤ _; rw [UInt8.le_iff_toNat_le]; show 32 ≤ c.toNat; omega)
  rw [upB, if_pos (by omega), this]; omega
theorem upB_no (c : UInt8) (h : ¬ (97 ≤ (c.toNat : Int) ∧ (c.toNat : Int) ≤ 122)) : upB c = c := by
  rw [upB, if_neg (by omega)]

theorem upB_ref (c : UInt8) (h1 : 97 ≤ (c.toNat : Int)) (h2 : (c.toNat : Int) ≤ 122) : UInt8.ofNat (c.toNat - 97) + 65 = upB c := by
  refine UInt8.toNat_inj.1 ?_
  have := upB_yes c h1 h2
  simp only [UInt8.toNat_add, UInt8.toNat_ofNat']
  have e : (65 : UInt8).toNat = 65 := rfl
  rw [e]; omega
theorem upL_step (s o : ByteArray) (k : Nat) (hk : k < s.size) (d : UInt8) (hp : Hid (o.data.toList = upL (s.data.toList.take k))) (hd : d = upB s[k]) : Hid ((o ++ ⟨#[d]⟩).data.toList = upL (s.data.toList.take (k + 1))) := by
  show _ = _
  rw [toList_app, hp.out, take_snoc s k hk, upL_snoc, hd]
theorem size_app1 {o : ByteArray} {k : Nat} (d : UInt8) (h : o.size ≤ k) : (o ++ ⟨#[d]⟩).size ≤ k + 1 := by
  rw [ByteArray.size_append]; show o.size + 1 ≤ _; omega
set_option maxHeartbeats 1000000 in
theorem refUpper_any (s : ByteArray) (hs : s.size ≤ maxLen) (w : World) :
    Calls Try.prog 69 #[.string s] w fun e w' => e = .returned (.string ⟨(upL s.data.toList).toArray⟩) ∧ Below w.heap.size w w' := by
  unfold maxLen at hs
  have kb := run_conv_one (P := Try.prog) 133 9 5 Try.underlying133 Try.underlying5 Try.underlying9
  go_enter Try.func69, Try.ntmps69
  go_wp2_with fail
  go_loopw [3, 4] (fun v i wr => ∃ (k : Nat) (o : ByteArray), k ≤ s.size ∧ o.size ≤ k ∧ i = .int .i64 k ∧ v = .string o ∧ Hid (o.data.toList = upL (s.data.toList.take k)) ∧ Below w.heap.size w wr) (fun _ i _ => s.size - (intOf i).toNat)
  case atStart => exact ⟨0, _, Nat.zero_le _, Nat.zero_le _, rfl, rfl, rfl, Below.refl _ _⟩
  case round =>
    obtain ⟨k, o, hk, ho, rfl, rfl, hp, hb⟩ := hrel
    by_cases hlt : k < s.size
    · go_wp2_with fail
      · refine ⟨⟨k + 1, _, by omega, size_app1 _ ho, by go_num, rfl, upL_step s o k hlt _ hp (upB_ref _ (by assumption) (by assumption)), hb.alloc hb.size _⟩, by simp [intOf]; omega⟩
      · refine ⟨⟨k + 1, _, by omega, size_app1 _ ho, by go_num, rfl, upL_step s o k hlt _ hp (upB_no _ (by omega)).symm, hb.alloc hb.size _⟩, by simp [intOf]; omega⟩
      · refine ⟨⟨k + 1, _, by omega, size_app1 _ ho, by go_num, rfl, upL_step s o k hlt _ hp (upB_no _ (by omega)).symm, hb.alloc hb.size _⟩, by simp [intOf]; omega⟩
    · obtain rfl : k = s.size := by omega
      go_wp2_with fail
      go_ret
      rw [take_all] at hp
      exact ⟨ret_str hp.out, hb⟩

end Go.Proofs.Ytcnebfmlelcliaa
namespace Go.Proofs.Ytcnebfmlelcliaa
open Go.RowKit

def lowB (c : UInt8) : UInt8 := if 65 ≤ c.toNat ∧ c.toNat ≤ 90 then c + 32 else c
def lowL (l : List UInt8) : List UInt8 := l.map lowB
theorem lowL_snoc (l : List UInt8) (c : UInt8) : lowL (l ++ [c]) = lowL l ++ [lowB c] := by simp [lowL]
theorem lowB_yes (c : UInt8) (h1 : 65 ≤ (c.toNat : Int)) (h2 : (c.toNat : Int) ≤ 90) : ((lowB c).toNat : Int) = c.toNat + 32 := by
  rw [lowB, if_pos (by omega), UInt8.toNat_add]
  show (((c.toNat + 32) % 256 : Nat) : Int) = _
  omega
theorem lowB_no (c : UInt8) (h : ¬ (65 ≤ (c.toNat : Int) ∧ (c.toNat : Int) ≤ 90)) : lowB c = c := by
  rw [lowB, if_neg (by omega)]

theorem lowB_ref (c : UInt8) (h1 : 65 ≤ (c.toNat : Int)) (h2 : (c.toNat : Int) ≤ 90) : UInt8.ofNat (c.toNat - 65) + 97 = lowB c := by
  refine UInt8.toNat_inj.1 ?_
  have := lowB_yes c h1 h2
  simp only [UInt8.toNat_add, UInt8.toNat_ofNat']
  have e : (97 : UInt8).toNat = 97 := rfl
  rw [e]; omega
theorem lowL_step (s o : ByteArray) (k : Nat) (hk : k < s.size) (d : UInt8) (hp : Hid (o.data.toList = lowL (s.data.toList.take k))) (hd : d = lowB s[k]) : Hid ((o ++ ⟨#[d]⟩).data.toList = lowL (s.data.toList.take (k + 1))) := by
  show _ = _
  rw [toList_app, hp.out, take_snoc s k hk, lowL_snoc, hd]
end Go.Proofs.Ytcnebfmlelcliaa
namespace Go.Proofs.Ytcnebfmlelcliaa

structure STO {α : Type} (lt : α → α → Bool) : Prop where
  irr : ∀ a, lt a a = false
  trans : ∀ a b c, lt a b = true → lt b c = true → lt a c = true
  tot : ∀ a b, a ≠ b → lt a b = true ∨ lt b a = true
def SSorted {α : Type} (lt : α → α → Bool) (l : List α) : Prop := l.Pairwise fun a b => lt a b = true
theorem ssorted_ext {α : Type} {lt : α → α → Bool} (H : STO lt) : ∀ (l m : List α), SSorted lt l → SSorted lt m → (∀ x, x ∈ l ↔ x ∈ m) → l = m
  | [], [], _, _, _ => rfl
  | [], b :: m, _, _, h => by have := (h b).2 (by simp); simp at this
  | a :: l, [], _, _, h => by have := (h a).1 (by simp); simp at this
  | a :: l, b :: m, hl, hm, h => by
    obtain ⟨hl1, hl2⟩ := List.pairwise_cons.1 hl
    obtain ⟨hm1, hm2⟩ := List.pairwise_cons.1 hm
    have hab : a = b := by
      by_cases e : a = b
      · exact e
      · have h1 : a ∈ m := by
          rcases List.mem_cons.1 ((h a).1 (by simp)) with h | h
          · exact absurd h e
          · exact h
        have h2 : b ∈ l := by
          rcases List.mem_cons.1 ((h b).2 (by simp)) with h | h
          · exact absurd h.symm e
          · exact h
        have := H.trans _ _ _ (hl1 b h2) (hm1 a h1)
        rw [H.irr] at this; cases this
    subst hab
    congr 1
    refine ssorted_ext H l m hl2 hm2 fun x => ⟨fun hx => ?_, fun hx => ?_⟩
    · rcases List.mem_cons.1 ((h x).1 (by simp [hx])) with rfl | h
      · have := hl1 x hx; rw [H.irr] at this; cases this
      · exact h
    · rcases List.mem_cons.1 ((h x).2 (by simp [hx])) with rfl | h
      · have := hm1 x hx; rw [H.irr] at this; cases this
      · exact h
/-- f, in its place -/
def insS {α : Type} (lt : α → α → Bool) (f : α) : List α → List α
  | [] => [f]
  | x :: r => if lt f x then f :: x :: r else x :: insS lt f r
/-- one more, if it isn't there -/
def withS {α : Type} [DecidableEq α] (lt : α → α → Bool) (l : List α) (f : α) : List α := if f ∈ l then l else insS lt f l
def setS {α : Type} [DecidableEq α] (lt : α → α → Bool) (l : List α) : List α := l.foldl (withS lt) []
theorem mem_insS {α : Type} (lt : α → α → Bool) (f x : α) : ∀ l : List α, x ∈ insS lt f l ↔ x = f ∨ x ∈ l
  | [] => by simp [insS]
  | y :: r => by
    rw [insS]
    split
    · simp
    · rw [List.mem_cons, mem_insS lt f x r, List.mem_cons]
      constructor
      · rintro (h | h | h) <;> simp [h]
      · rintro (h | h | h) <;> simp [h]
theorem mem_withS {α : Type} [DecidableEq α] (lt : α → α → Bool) (l : List α) (f x : α) : x ∈ withS lt l f ↔ x = f ∨ x ∈ l := by
  rw [withS]
  split
  · rename_i h
    constructor
    · exact .inr
    · rintro (rfl | h1)
      · exact h
      · exact h1
  · exact mem_insS lt f x l
theorem sorted_insS {α : Type} {lt : α → α → Bool} (H : STO lt) (f : α) : ∀ l : List α, SSorted lt l → f ∉ l → SSorted lt (insS lt f l)
  | [], _, _ => List.pairwise_singleton _ _
  | y :: r, h, hn => by
    obtain ⟨h1, h2⟩ := List.pairwise_cons.1 h
    rw [insS]
    split
    · rename_i hf
      refine List.pairwise_cons.2 ⟨fun z hz => ?_, h⟩
      rcases List.mem_cons.1 hz with rfl | hz
      · exact hf
      · exact H.trans _ _ _ hf (h1 z hz)
    · rename_i hf
      refine List.pairwise_cons.2 ⟨fun z hz => ?_, sorted_insS H f r h2 (fun h => hn (by simp [h]))⟩
      rcases (mem_insS lt f z r).1 hz with rfl | hz
      · rcases H.tot z y (fun e => hn (by simp [e])) with h | h
        · exact absurd h hf
        · exact h
      · exact h1 z hz
theorem sorted_withS {α : Type} [DecidableEq α] {lt : α → α → Bool} (H : STO lt) (l : List α) (f : α) (h : SSorted lt l) : SSorted lt (withS lt l f) := by
  rw [withS]
  split
  · exact h
  · rename_i hn
    exact sorted_insS H f l h hn
theorem foldl_withS {α : Type} [DecidableEq α] {lt : α → α → Bool} (H : STO lt) : ∀ (l m : List α), SSorted lt m → SSorted lt (l.foldl (withS lt) m) ∧ ∀ x, x ∈ l.foldl (withS lt) m ↔ x ∈ m ∨ x ∈ l
  | [], m, h => ⟨h, fun x => by simp⟩
  | y :: r, m, h => by
    have ih := foldl_withS H r (withS lt m y) (sorted_withS H m y h)
    refine ⟨ih.1, fun x => ?_⟩
    rw [List.foldl_cons, ih.2, mem_withS, List.mem_cons]
    constructor
    · rintro ((h | h) | h) <;> simp [h]
    · rintro (h | h | h) <;> simp [h]
theorem sorted_setS {α : Type} [DecidableEq α] {lt : α → α → Bool} (H : STO lt) (l : List α) : SSorted lt (setS lt l) := (foldl_withS H l [] List.Pairwise.nil).1
theorem mem_setS {α : Type} [DecidableEq α] {lt : α → α → Bool} (H : STO lt) (l : List α) (x : α) : x ∈ setS lt l ↔ x ∈ l := by
  rw [setS, (foldl_withS H l [] List.Pairwise.nil).2]; simp
theorem setS_of_sorted {α : Type} [DecidableEq α] {lt : α → α → Bool} (H : STO lt) (l : List α) (h : SSorted lt l) : setS lt l = l := ssorted_ext H _ _ (sorted_setS H l) h (mem_setS H l)
theorem insS_len {α : Type} (lt : α → α → Bool) (f : α) : ∀ l : List α, (insS lt f l).length = l.length + 1
  | [] => rfl
  | x :: r => by
    rw [insS]
    split
    · simp
    · simp [insS_len lt f r]
theorem get!_list {α : Type} [Inhabited α] (l : List α) (j : Nat) : l.toArray[j]! = l[j]! := by simp
/-! texts in their order -/
theorem cmp_lt : ∀ a b : List UInt8, decide (Lib.compareBytes a b < 0) = bytesBefore a b
  | [], [] => rfl
  | [], _ :: _ => rfl
  | _ :: _, [] => rfl
  | a :: x, b :: y => by
    rw [Lib.compareBytes, bytesBefore]
    by_cases h1 : a < b
    · simp [h1]
    · by_cases h2 : b < a
      · have h3 : ¬ a = b := fun e => by subst e; exact h1 h2
        simp [h1, h2, h3]
      · have h3 : a = b := by
          have := UInt8.not_lt.1 h1
          have := UInt8.not_lt.1 h2
          exact UInt8.le_antisymm ‹_› ‹_›
        subst h3
        simp [h1, cmp_lt x y]
theorem bytes_sto : STO (α := List UInt8) bytesBefore := ⟨WideAt.bytes_irrefl, fun a b c => WideShapes.bytes_trans a b c, fun a b => WideAt.bytes_total a b⟩
end Go.Proofs.Ytcnebfmlelcliaa
namespace Go.Proofs.Ytcnebfmlelcliaa
open Go.RowKit

def sysL : List (List UInt8) := [[92, 65, 110, 115, 119, 101, 114, 101, 100], [92, 70, 108, 97, 103, 103, 101, 100], [92, 68, 101, 108, 101, 116, 101, 100], [92, 83, 101, 101, 110], [92, 68, 114, 97, 102, 116]]
def keyB (l : List UInt8) : Bool := allS atomB l && decide (l.length ≤ 32)
/-- a flag as it is kept -/
def canonL (s : List UInt8) : Option (List UInt8) := match sysL.find? (fun f => upL f == upL s) with
  | some f => some f
  | none => if keyB s then some (lowL s) else none
def placeL (f : List UInt8) : Nat := sysL.idxOf f
def fcmp (a b : List UInt8) : Int := if placeL a = placeL b then Lib.compareBytes a b else (placeL a : Int) - placeL b
def flt (a b : List UInt8) : Bool := decide (fcmp a b < 0)
theorem flt_eq (a b : List UInt8) : flt a b = if placeL a = placeL b then bytesBefore a b else decide (placeL a < placeL b) := by
  rw [flt, fcmp]
  split
  · exact cmp_lt a b
  · rw [decide_eq_decide]; omega
theorem flt_sto : STO flt := by
  refine ⟨fun a => by rw [flt_eq, if_pos rfl]; exact bytes_sto.irr a, fun a b c h1 h2 => ?_, fun a b h => ?_⟩
  · rw [flt_eq] at h1 h2 ⊢
    by_cases e1 : placeL a = placeL b
    · rw [if_pos e1] at h1
      by_cases e2 : placeL b = placeL c
      · rw [if_pos e2] at h2
        rw [if_pos (e1.trans e2)]
        exact bytes_sto.trans _ _ _ h1 h2
      · rw [if_neg e2] at h2
        rw [if_neg (by omega)]
        rw [e1]; exact h2
    · rw [if_neg e1] at h1
      by_cases e2 : placeL b = placeL c
      · rw [if_pos e2] at h2
        rw [if_neg (by omega), ← e2]; exact h1
      · rw [if_neg e2] at h2
        simp only [decide_eq_true_eq] at h1 h2
        rw [if_neg (by omega)]
        simp only [decide_eq_true_eq]; omega
  · rw [flt_eq, flt_eq]
    by_cases e1 : placeL a = placeL b
    · rw [if_pos e1, if_pos e1.symm]
      exact bytes_sto.tot a b h
    · rw [if_neg e1, if_neg (fun e => e1 e.symm)]
      simp only [decide_eq_true_eq]; omega
def fset (l : List (List UInt8)) : List (List UInt8) := setS flt l
theorem placeL_le (f : List UInt8) : placeL f ≤ 5 := List.idxOf_le_length
theorem eq_str (u v : ByteArray) : (u.toList == v.toList) = (u.data.toList == v.data.toList) := by rw [ByteArray.toList_eq, ByteArray.toList_eq]
/-- the call laid blocks, and drew, and nothing else -/
def Lays (w : World) (w' : World) : Prop := ∃ os : Array Obj, w' = Sort.grow w os
theorem Lays.below {w w' : World} (h : Lays w w') : Below w.heap.size w w' := by
  obtain ⟨os, rfl⟩ := h
  exact ⟨rfl, rfl, rfl, by simp [Sort.grow], fun k hk => by simp [Sort.grow, Array.getElem?_append, hk]⟩
theorem Lays.alloc (w : World) (o : Obj) : Lays w (w.alloc o) := ⟨#[o], Sort.alloc_eq_grow w o⟩
theorem Lays.trans {a b c : World} (h : Lays a b) (k : Lays b c) : Lays a c := by
  obtain ⟨o1, rfl⟩ := h
  obtain ⟨o2, rfl⟩ := k
  exact ⟨o1 ++ o2, Sort.grow_grow _ _ _⟩
theorem Lays.refl (w : World) : Lays w w := ⟨#[], (Sort.grow_empty w).symm⟩
/-- texts as the program holds them -/
def mkB (l : List UInt8) : ByteArray := ⟨l.toArray⟩
theorem mkB_list (l : List UInt8) : (mkB l).data.toList = l := rfl
end Go.Proofs.Ytcnebfmlelcliaa
namespace Go.Proofs.Ytcnebfmlelcliaa
open Go.RowKit Go.Lib Go.Sort

/-- v is a slice of the call's own (from block B on), free to be written, that holds these texts -/
def HoldsSl (B : Nat) (w : World) (v : Value) (l : List (List UInt8)) : Prop := ∃ ao cap, v = .slice ao l.length cap ∧ (l = [] ∨ ∃ g, ao = some ⟨g, 0, none⟩ ∧ B ≤ g ∧ g < w.heap.size ∧ l.length ≤ cap ∧ Holds encStr w g 0 l.toArray)
theorem HoldsSl.rd {B : Nat} {w : World} {v : Value} {l : List (List UInt8)} (h : HoldsSl B w v l) : Rd w v l.length (l.map encStr) := by
  obtain ⟨ao, cap, rfl, rfl | ⟨g, rfl, hB, hg, hc, hh⟩⟩ := h
  · exact ⟨ao, cap, rfl, .inl rfl⟩
  · refine ⟨_, cap, rfl, .inr ⟨g, 0, rfl, hg, hc, fun i u hu => ?_⟩⟩
    have hi : i < l.length := by
      have := (List.getElem?_eq_some_iff.1 hu).1
      simpa using this
    have := (hh i (by simpa using hi)).1
    rw [this]
    rw [List.getElem?_map, List.getElem?_eq_getElem hi] at hu
    rw [get!_list, getElem!_pos l i hi]
    exact hu
end Go.Proofs.Ytcnebfmlelcliaa
namespace Go.Proofs.Ytcnebfmlelcliaa
open Go.RowKit

/-- e returns a text whose bytes are l; of what was there nothing has turned -/
def RetStr (l : List UInt8) (w : World) (e : Ending) (w' : World) : Prop := ∃ u : ByteArray, e = .returned (.string u) ∧ Hid (u.data.toList = l) ∧ Below w.heap.size w w'
theorem refUpperS_any (s : ByteArray) (hs : s.size ≤ maxLen) (w : World) : Calls Try.prog 69 #[.string s] w (RetStr (upL s.data.toList) w) :=
  (refUpper_any s hs w).mono fun _ _ ⟨he, hb⟩ => ⟨_, he, rfl, hb⟩
def CanonRet (s : List UInt8) (w : World) (e : Ending) (w' : World) : Prop := ∃ (u : ByteArray) (ok : Bool), e = .returned (.tuple #[.string u, .bool ok]) ∧ Hid (canonL s = (if ok then some u.data.toList else none) ∧ (ok = false → u = ⟨#[]⟩)) ∧ Hid (Below w.heap.size w w')
theorem canon_yes {s : List UInt8} {w w' : World} {u : ByteArray} (h : canonL s = some u.data.toList) (hb : Below w.heap.size w w') : CanonRet s w (.returned (.tuple #[.string u, .bool true])) w' := ⟨u, true, rfl, Lib.hid ⟨h, fun h => by cases h⟩, Lib.hid hb⟩
theorem canon_no {s : List UInt8} {w w' : World} (h : canonL s = none) (hb : Below w.heap.size w w') : CanonRet s w (.returned (.tuple #[.string ⟨#[]⟩, .bool false])) w' := ⟨⟨#[]⟩, false, rfl, Lib.hid ⟨h, fun _ => rfl⟩, Lib.hid hb⟩
def isSys (s : List UInt8) (j : Nat) : Bool := upL (sysL.getD j []) == upL s
theorem canon_sys (s : List UInt8) (k : Nat) (hk : k < 5) (h1 : ∀ j, j < k → isSys s j = false) (h2 : isSys s k = true) : canonL s = some (sysL.getD k []) := by
  have hf : sysL.find? (fun f => upL f == upL s) = some (sysL.getD k []) := by
    have e : ∀ (l : List (List UInt8)) (k : Nat), k < l.length → (∀ j, j < k → (upL (l.getD j []) == upL s) = false) → (upL (l.getD k []) == upL s) = true → l.find? (fun f => upL f == upL s) = some (l.getD k []) := by
      intro l
      induction l with
      | nil => intro k hk; simp at hk
      | cons x r ih =>
        intro k hk h1 h2
        match k, hk, h1, h2 with
        | 0, _, _, h2 => rw [List.find?_cons, show (upL x == upL s) = true from h2]; rfl
        | k + 1, hk, h1, h2 =>
          rw [List.find?_cons, show (upL x == upL s) = false from h1 0 (by omega)]
          exact ih k (by simpa using hk) (fun j hj => h1 (j + 1) (by omega)) h2
    exact e sysL k hk h1 h2
  rw [canonL, hf]
theorem canon_key (s : List UInt8) (h1 : ∀ j, j < 5 → isSys s j = false) : canonL s = if keyB s then some (lowL s) else none := by
  have hf : sysL.find? (fun f => upL f == upL s) = none := by
    rw [List.find?_eq_none]
    intro x hx
    obtain ⟨j, hj, rfl⟩ := List.getElem_of_mem hx
    have := h1 j hj
    rw [isSys, List.getD, List.getElem?_eq_getElem hj] at this
    simpa using this
  rw [canonL, hf]
theorem eqS_of {u v : ByteArray} {l m : List UInt8} (hu : Hid (u.data.toList = l)) (hv : Hid (v.data.toList = m)) : (u.toList == v.toList) = (l == m) := by rw [eq_str, hu.out, hv.out]
theorem sys_le (k : Nat) (hk : k < 5) : (mkB (sysL.getD k [])).size ≤ maxLen := by
  have h : (mkB (sysL.getD k [])).size ≤ 9 := by
    match k, hk with
    | 0, _ => exact Nat.le_of_ble_eq_true rfl
    | 1, _ => exact Nat.le_of_ble_eq_true rfl
    | 2, _ => exact Nat.le_of_ble_eq_true rfl
    | 3, _ => exact Nat.le_of_ble_eq_true rfl
    | 4, _ => exact Nat.le_of_ble_eq_true rfl
  unfold maxLen; omega
theorem refSystem_any (k : Nat) (hk : k < 5) (w : World) : Calls Try.prog 83 #[.int .i64 k] w fun e w' => e = .returned (.string (mkB (sysL.getD k []))) ∧ w = w' := by
  have h5 : k = 0 ∨ k = 1 ∨ k = 2 ∨ k = 3 ∨ k = 4 := by omega
  clear hk
  rcases h5 with rfl | rfl | rfl | rfl | rfl
  all_goals
    go_enter Try.func83, Try.ntmps83
    go_wp2_with fail
    go_ret
    exact ⟨rfl, rfl⟩
end Go.Proofs.Ytcnebfmlelcliaa
