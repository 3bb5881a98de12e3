/- Small plain lemmas on blocks, boxes, texts; a text cut at a byte; rows of ranges and of numbers. Where a row stands, in both: walked. Rows of one's own; views alike; rows cloned: walked. Told of the program: walked. The greatest Uid, in both: walked. A view's rows and replies as rows of structs. -/
import Derived.Test.YtcnebfmlelcliaaProg
import Derived.Test.YtcnebfmlelcliaaChecked
import Derived.BigCall
import Derived.BigGuard
import Derived.Laws.Closers25
import Derived.Laws.Closers25b
import Derived.Laws.Strings3
import Derived.Lib.AppendIntMem
import Derived.Lib.ItoaLen
import Derived.Lib.ItoaMem
import Derived.Lib.Strings
import Derived.Lib.Walk
import Derived.Test.YtcnebfmlelcliaaB01
import Derived.Lib.Split
import Derived.Lib.SplitLaws
import Derived.Lib.IndexBytes
import Derived.RangeFuncBox
import Derived.BigQuiet
import Derived.Deep.QuietTactic
import Derived.Laws.EntriesVeiled
import Derived.Laws.StructEq
import Derived.Test.YtcnebfmlelcliaaB02
namespace Go.Proofs.Ytcnebfmlelcliaa
open Go.RowKit

def encStr (l : List UInt8) : Value := .string ⟨l.toArray⟩
def mkB (l : List UInt8) : ByteArray := ⟨l.toArray⟩
theorem mkB_list (l : List UInt8) : (mkB l).data.toList = l := rfl
theorem mkB_eta (s : ByteArray) : mkB s.data.toList = s := rfl
theorem size_of_list {u : ByteArray} {l : List UInt8} (h : u.data.toList = l) : u.size = l.length := by rw [← h]; rfl
theorem boxed_below {W W' : World} {B : Nat} {t : TypeId} {v : Value} (h : Boxed W B t v) (hb : Below W.heap.size W W') : Boxed W' B t v := (hb.block B h.lt).trans h
theorem heap_below {W W' : World} {b : Nat} {o : Obj} (h : W.heap[b]? = some o) (hb : Below W.heap.size W W') : W'.heap[b]? = some o := (hb.block b (Array.getElem?_eq_some_iff.1 h).1).trans h
theorem cells_new (w : World) (C : Array Value) (t : TypeId) : (w.alloc (.cells C t)).heap[w.heap.size]? = some (.cells C t (0, 0)) := heap_alloc_new w _
theorem cells_kept {w : World} {b : Nat} {o : Obj} (h : w.heap[b]? = some o) (o' : Obj) : (w.alloc o').heap[b]? = some o := heap_below h ((Below.refl _ w).alloc (Nat.le_refl _) _)
/-- cut at each byte c -/
def spl (c : UInt8) : List UInt8 → List (List UInt8)
  | [] => [[]]
  | b :: l => if b = c then [] :: spl c l else match spl c l with
    | [] => [[b]]
    | x :: r => (b :: x) :: r
theorem spl_ne (c : UInt8) : ∀ l, spl c l ≠ []
  | [] => by simp [spl]
  | b :: l => by
    rw [spl]
    split
    · simp
    · split <;> simp
theorem spl_skip (c b : UInt8) (l : List UInt8) (h : b ≠ c) : ∃ x r, spl c l = x :: r ∧ spl c (b :: l) = (b :: x) :: r := by
  cases hs : spl c l with
  | nil => exact absurd hs (spl_ne c l)
  | cons x r => exact ⟨x, r, rfl, by rw [spl, if_neg h, hs]⟩
theorem spl_cut (c : UInt8) : ∀ (l : List UInt8) (i : Nat), Lib.indexByte l c = i → spl c l = l.take i :: spl c (l.drop (i + 1)) ∧ l.count c = 1 + (l.drop (i + 1)).count c ∧ i < l.length
  | [], i, h => by simp [Lib.indexByte] at h
  | b :: l, i, h => by
    rw [Lib.indexByte] at h
    by_cases hb : b = c
    · subst hb
      simp at h
      obtain rfl : i = 0 := by omega
      exact ⟨by simp [spl], by simp; omega, by simp⟩
    · rw [if_neg (by simpa using hb)] at h
      have hge := Lib.indexByte_ge l c
      by_cases hm : Lib.indexByte l c = -1
      · rw [hm] at h; simp at h
      · rw [if_neg (by simpa using hm)] at h
        obtain ⟨j, rfl⟩ : ∃ j, i = j + 1 := ⟨i - 1, by omega⟩
        obtain ⟨h1, h2, h3⟩ := spl_cut c l j (by omega)
        obtain ⟨x, r, e1, e2⟩ := spl_skip c b l hb
        rw [h1] at e1
        injection e1 with e3 e4
        refine ⟨by rw [e2, ← e3, ← e4]; rfl, ?_, by simp; omega⟩
        rw [List.drop_succ_cons, List.count_cons_of_ne (by simpa using hb)]
        exact h2
theorem spl_none (c : UInt8) : ∀ l : List UInt8, Lib.indexByte l c = -1 → spl c l = [l] ∧ l.count c = 0
  | [], _ => ⟨rfl, rfl⟩
  | b :: l, h => by
    rw [Lib.indexByte] at h
    have hge := Lib.indexByte_ge l c
    by_cases hb : b = c
    · subst hb; simp at h
    · rw [if_neg (by simpa using hb)] at h
      by_cases hm : Lib.indexByte l c = -1
      · obtain ⟨h1, h2⟩ := spl_none c l hm
        refine ⟨?_, by rw [List.count_cons_of_ne (by simpa using hb)]; exact h2⟩
        rw [spl, if_neg hb, h1]
      · rw [if_neg (by simpa using hm)] at h; omega
theorem splitK_spl (c : UInt8) : ∀ (k : Nat) (l : List UInt8), l.count c = k → Lib.splitK [c] 0 k l = spl c l
  | 0, l, h => by
    have : Lib.indexByte l c = -1 := by
      have hge := Lib.indexByte_ge l c
      by_cases hm : Lib.indexByte l c = -1
      · exact hm
      · have := (spl_cut c l (Lib.indexByte l c).toNat (by omega)).2.1
        omega
    rw [(spl_none c l this).1]; rfl
  | k + 1, l, h => by
    rw [Lib.splitK, Lib.index_one]
    by_cases hm : Lib.indexByte l c = -1
    · have := (spl_none c l hm).2; omega
    · have hge := Lib.indexByte_ge l c
      obtain ⟨h1, h2, h3⟩ := spl_cut c l (Lib.indexByte l c).toNat (by omega)
      rw [if_neg (by simpa using hm), h1, Nat.add_zero]
      congr 1
      exact splitK_spl c k _ (by simp only [List.length_singleton]; omega)
theorem splitB_spl (c : UInt8) (s : ByteArray) : (Lib.splitB ⟨#[c]⟩ 0 (Lib.countB s ⟨#[c]⟩) s).map (·.data.toList) = spl c s.data.toList := by
  rw [Lib.splitB_data]
  have e : Lib.countB s ⟨#[c]⟩ = s.data.toList.count c := Lib.count_one c s.data.toList
  rw [e]
  exact splitK_spl c _ _ rfl
theorem spl_len (c : UInt8) (l : List UInt8) : (spl c l).length ≤ l.length + 1 := by
  induction l with
  | nil => simp [spl]
  | cons b l ih =>
    rw [spl]
    split
    · simp; exact ih
    · split
      · simp
      · rename_i x r h; rw [h] at ih; simp at ih ⊢; omega
theorem spl_short (c : UInt8) (l : List UInt8) : ∀ x ∈ spl c l, x.length ≤ l.length := by
  induction l with
  | nil => simp [spl]
  | cons b l ih =>
    rw [spl]
    split
    · intro x hx
      rcases List.mem_cons.1 hx with rfl | hx
      · simp
      · have := ih x hx; simp; omega
    · split
      · simp
      · rename_i y r h
        rw [h] at ih
        intro x hx
        rcases List.mem_cons.1 hx with rfl | hx
        · have := ih y (by simp); simp; omega
        · have := ih x (by simp [hx]); simp; omega
theorem spl_snoc_ne (c b : UInt8) (hb : b ≠ c) : ∀ (l : List UInt8) (out : List (List UInt8)) (x : List UInt8), spl c l = out ++ [x] → spl c (l ++ [b]) = out ++ [x ++ [b]]
  | [], out, x, h => by
    have h' : [[]] = out ++ [x] := h
    have hl := congrArg List.length h'
    simp at hl
    subst hl
    simp at h'
    subst h'
    simp [spl, hb]
  | y :: l, out, x, h => by
    by_cases hy : y = c
    · rw [spl, if_pos hy] at h
      rw [List.cons_append, spl, if_pos hy]
      cases out with
      | nil =>
        simp at h
        exact absurd h.2 (spl_ne c l)
      | cons o r =>
        simp only [List.cons_append, List.cons.injEq] at h ⊢
        exact ⟨h.1, spl_snoc_ne c b hb l r x h.2⟩
    · obtain ⟨z, r, e1, e2⟩ := spl_skip c y l hy
      rw [e2] at h
      obtain ⟨z2, r2, e3, e4⟩ := spl_skip c y (l ++ [b]) hy
      rw [List.cons_append, e4]
      cases out with
      | nil =>
        simp only [List.nil_append, List.cons.injEq] at h
        have h5 := spl_snoc_ne c b hb l [] z (by rw [e1, h.2]; rfl)
        rw [e3] at h5
        simp only [List.nil_append, List.cons.injEq] at h5 ⊢
        exact ⟨by rw [h5.1, ← h.1]; rfl, h5.2⟩
      | cons o q =>
        simp only [List.cons_append, List.cons.injEq] at h ⊢
        have h5 := spl_snoc_ne c b hb l (z :: q) x (by rw [e1, h.2]; rfl)
        rw [e3] at h5
        simp only [List.cons_append, List.cons.injEq] at h5
        exact ⟨by rw [h5.1]; exact h.1, h5.2⟩
theorem spl_snoc_eq (c : UInt8) : ∀ l : List UInt8, spl c (l ++ [c]) = spl c l ++ [[]]
  | [] => by simp [spl]
  | y :: l => by
    by_cases hy : y = c
    · rw [List.cons_append, spl, if_pos hy, spl, if_pos hy, spl_snoc_eq c l]; rfl
    · obtain ⟨z, r, e1, e2⟩ := spl_skip c y l hy
      obtain ⟨z2, r2, e3, e4⟩ := spl_skip c y (l ++ [c]) hy
      rw [List.cons_append, e4, e2]
      rw [spl_snoc_eq c l, e1] at e3
      simp only [List.cons_append, List.cons.injEq] at e3
      obtain ⟨rfl, rfl⟩ := e3
      rfl
/-! ranges in memory: two cells each -/
abbrev Rng := Nat × Nat
/-- the ranges lie in v, in a block below B -/
def RangesIn (w : World) (B : Nat) (v : Value) (rs : List Rng) : Prop := ∃ ao cap, v = .slice ao rs.length cap ∧ (rs = [] ∨ ∃ b o, ao = some ⟨b, o, none⟩ ∧ b < B ∧ rs.length ≤ cap ∧ ∀ j, (h : j < rs.length) → w.cell? ⟨b, o + j * 2, none⟩ = some (.int .u64 rs[j].1) ∧ w.cell? ⟨b, o + j * 2 + 1, none⟩ = some (.int .u64 rs[j].2))
theorem RangesIn.later {w w' : World} {B : Nat} {v : Value} {rs : List Rng} (h : RangesIn w B v rs) (hb : Below B w w') : RangesIn w' B v rs := by
  obtain ⟨ao, cap, hv, h | ⟨b, o, ha, hlt, hle, hc⟩⟩ := h
  · exact ⟨ao, cap, hv, .inl h⟩
  · exact ⟨ao, cap, hv, .inr ⟨b, o, ha, hlt, hle, fun j hj => ⟨(hb.cell (p := ⟨b, o + j * 2, none⟩) hlt).trans (hc j hj).1, (hb.cell (p := ⟨b, o + j * 2 + 1, none⟩) hlt).trans (hc j hj).2⟩⟩⟩
theorem RangesIn.mono {w : World} {B B' : Nat} {v : Value} {rs : List Rng} (h : RangesIn w B v rs) (hb : B ≤ B') : RangesIn w B' v rs := by
  obtain ⟨ao, cap, hv, h | ⟨b, o, ha, hlt, hle, hc⟩⟩ := h
  · exact ⟨ao, cap, hv, .inl h⟩
  · exact ⟨ao, cap, hv, .inr ⟨b, o, ha, by omega, hle, hc⟩⟩
theorem RangesIn.on {w w' : World} {v : Value} {rs : List Rng} (h : RangesIn w w.heap.size v rs) (hb : Below w.heap.size w w') : RangesIn w' w'.heap.size v rs := (h.later hb).mono hb.size
def rngCells (r : Rng) : List Value := [.int .u64 r.1, .int .u64 r.2]
def rangesCells (rs : List Rng) : List Value := rs.flatMap rngCells
theorem rangesCells_len : ∀ (rs : List Rng), (rangesCells rs).length = rs.length * 2
  | [] => rfl
  | k :: r => by
    have := rangesCells_len r
    unfold rangesCells at this ⊢
    rw [List.flatMap_cons, List.length_append, this, List.length_cons]
    show 2 + _ = _
    omega
theorem rangesCells_app (a b : List Rng) : rangesCells (a ++ b) = rangesCells a ++ rangesCells b := List.flatMap_append
theorem rangesCells_get : ∀ (rs : List Rng) (j : Nat) (hj : j < rs.length) (r : Nat), r < 2 → (rangesCells rs)[j * 2 + r]? = (rngCells rs[j])[r]?
  | k :: l, 0, _, r, hr => by
    unfold rangesCells
    rw [List.flatMap_cons, List.getElem?_append_left (by show _ < 2; omega)]
    simp
  | k :: l, j + 1, hj, r, hr => by
    have := rangesCells_get l j (by simpa using hj) r hr
    unfold rangesCells at this ⊢
    rw [List.flatMap_cons, List.getElem?_append_right (by show 2 ≤ _; omega), List.getElem_cons_succ, ← this]
    congr 1
    show (j + 1) * 2 + r - 2 = _
    omega
theorem rangesCells_one : ∀ (rs : List Rng), ∀ u ∈ rangesCells rs, u.oneCell' = true := fun rs u hu => by
  obtain ⟨k, _, hk⟩ := List.mem_flatMap.1 hu
  simp only [rngCells, List.mem_cons, List.not_mem_nil, or_false] at hk
  rcases hk with rfl | rfl <;> rfl
/-- v holds the ranges rs, in a row of the call's own from block B on -/
def OwnR (w : World) (B : Nat) (v : Value) (rs : List Rng) : Prop := w.ownsRow B 57 2 v rs.length (rangesCells rs)
theorem OwnR.nil (w : World) (B : Nat) : OwnR w B (.slice none 0 0) [] := World.ownsRow_nil _ _ _ _
theorem OwnR.alloc {w : World} {B : Nat} {v : Value} {rs : List Rng} (h : OwnR w B v rs) (o : Obj) : OwnR (w.alloc o) B v rs := World.ownsRow.alloc h o
theorem OwnR.below {w w' : World} {B : Nat} {v : Value} {rs : List Rng} (h : OwnR w B v rs) (hb : Below w.heap.size w w') : OwnR w' B v rs :=
  World.ownsRow.kept (row := none) h ⟨hb.os, hb.tape, hb.output, hb.size, fun k hk _ => hb.block k hk⟩ (by cases hv : v.ownBlock <;> simp)
theorem OwnR.len {w : World} {B : Nat} {v : Value} {rs : List Rng} (h : OwnR w B v rs) : ∃ a c, v = .slice a rs.length c := by
  rcases h.2 with ⟨rfl, hn⟩ | ⟨g, cap, cur, rfl, _⟩
  · exact ⟨none, 0, by rw [hn]⟩
  · exact ⟨_, _, rfl⟩
theorem rng_info : (Try.prog.info? 57).map (fun i => (i.zero, i.size, i.bytes)) = some (some (.agg #[.int .u64 0, .int .u64 0]), 2, 16) := by kernel_rfl
theorem Rd.ranges {w : World} {v : Value} {rs : List Rng} (h : Rd w v rs.length (rangesCells rs)) : RangesIn w w.heap.size v rs := by
  obtain ⟨ao, cap, hv, h⟩ := h
  refine ⟨ao, cap, hv, ?_⟩
  rcases h with h | ⟨b, o, ha, hlt, hle, hc⟩
  · exact .inl (List.eq_nil_of_length_eq_zero h)
  · refine .inr ⟨b, o, ha, hlt, hle, fun j hj => ?_⟩
    have g := fun r (hr : r < 2) u (hu : (rngCells rs[j])[r]? = some u) => hc (j * 2 + r) u (by rw [rangesCells_get rs j hj r hr]; exact hu)
    exact ⟨g 0 (by decide) _ rfl, g 1 (by decide) _ rfl⟩
theorem RangesIn.rd {w : World} {v : Value} {rs : List Rng} (h : RangesIn w w.heap.size v rs) : Rd w v rs.length (rangesCells rs) := by
  obtain ⟨ao, cap, hv, h⟩ := h
  refine ⟨ao, cap, hv, ?_⟩
  rcases h with h | ⟨b, o, ha, hlt, hle, hc⟩
  · exact .inl (by rw [h]; rfl)
  · refine .inr ⟨b, o, ha, hlt, hle, fun i u hu => ?_⟩
    have hi : i < rs.length * 2 := by
      have := (List.getElem?_eq_some_iff.1 hu).1
      rwa [rangesCells_len] at this
    obtain ⟨j, r, hr, rfl⟩ : ∃ j r, r < 2 ∧ i = j * 2 + r := ⟨i / 2, i % 2, Nat.mod_lt _ (by decide), by omega⟩
    have hj : j < rs.length := by omega
    rw [rangesCells_get rs j hj r hr] at hu
    obtain ⟨h0, h1⟩ := hc j hj
    match r, hr with
    | 0, _ => rw [← Option.some.inj hu]; exact h0
    | 1, _ => rw [← Option.some.inj hu]; exact h1
theorem OwnR.ranges {w : World} {B : Nat} {v : Value} {rs : List Rng} (h : OwnR w B v rs) : RangesIn w w.heap.size v rs := Rd.ranges (Rd.of_own h)
theorem OwnR.one (w : World) (x y : Nat) : OwnR (w.alloc (.cells #[.int .u64 x, .int .u64 y] 57)) w.heap.size (.slice (some ⟨w.heap.size, 0, none⟩) 1 1) [(x, y)] :=
  ⟨rfl, .inr ⟨w.heap.size, 1, _, rfl, Nat.le_refl _, heap_alloc_new w _, Nat.le_refl _, by unfold maxLen; omega, rfl, rfl⟩⟩
/-- 'append(v, u...)' of ranges -/
theorem wpList_append_ranges {w : World} {ops : Array Oper} {rest : List Oper} {o : Oper} {a : Act} {Q : Exit → Act → World → Prop} (hgd : o.guard = none) (s x : Operand)
    (ho : o.op = .call { callee := .builtin .append, args := #[s, x], argTypes := #[29, 29] }) (B : Nat) (v v2 : Value) (l m : List Rng)
    (hs : a.eval s = v) (hx : a.eval x = v2) (hown : OwnR w B v l) (h2 : Rd w v2 m.length (rangesCells m)) (hlen : (l.length + m.length) * 16 ≤ 140737488355328) (hbase : B ≤ w.heap.size)
    (h : ∀ v' w', OwnR w' B v' (l ++ m) → Below B w w' → wpList Try.prog ops Q rest (a.put o.dst v') w') : wpList Try.prog ops Q (o :: rest) a w := by
  refine wpList_append_rd hgd s x 29 ho B 57 _ 2 16 Try.underlying29 rng_info rfl (by decide) v v2 l.length m.length (rangesCells l) (rangesCells m) hs hx hown h2 (rangesCells_len m) (rangesCells_one m) (by unfold maxLen; omega) hlen hbase ?_
  intro v' w' ho' hg' _
  refine h v' w' ?_ ((Below.refl B w).grown hg' hbase (fun k hk => (World.ownsRow.lt hown k hk).1))
  unfold OwnR
  rw [List.length_append, rangesCells_app]
  exact ho'
/-- 'append(v, Range{x, y})' -/
theorem wpList_append_range {W : World} {ops : Array Oper} {rest : List Oper} {o : Oper} {a : Act} {Q : Exit → Act → World → Prop} (hgd : o.guard = none) (s x : Operand)
    (ho : o.op = .call { callee := .builtin .append, args := #[s, x], argTypes := #[29, 29] }) (B : Nat) (v : Value) (l : List Rng) (p q : Nat)
    (hs : a.eval s = v) (hx : a.eval x = .slice (some ⟨W.heap.size, 0, none⟩) 1 1) (hown : OwnR W B v l) (hlen : (l.length + 1) * 16 ≤ 140737488355328) (hbase : B ≤ W.heap.size)
    (h : ∀ v' w', OwnR w' B v' (l ++ [(p, q)]) → Below B W w' → wpList Try.prog ops Q rest (a.put o.dst v') w') :
    wpList Try.prog ops Q (o :: rest) a (W.alloc (.cells #[.int .u64 p, .int .u64 q] 57)) :=
  wpList_append_ranges hgd s x ho B v _ l [(p, q)] hs hx (hown.alloc _) (Rd.of_own (OwnR.one W p q)) (by simpa using hlen) (by simp; omega) (fun v' w' ho' hb' => h v' w' ho' (((Below.refl B W).alloc hbase _).trans hb'))
/-! numbers in memory -/
def encU (n : Nat) : Value := .int .u64 (n : Int)
def OwnN (w : World) (B : Nat) (v : Value) (ns : List Nat) : Prop := w.ownsRow B 22 1 v ns.length (ns.map encU)
theorem OwnN.nil (w : World) (B : Nat) : OwnN w B (.slice none 0 0) [] := World.ownsRow_nil _ _ _ _
theorem OwnN.alloc {w : World} {B : Nat} {v : Value} {ns : List Nat} (h : OwnN w B v ns) (o : Obj) : OwnN (w.alloc o) B v ns := World.ownsRow.alloc h o
theorem OwnN.below {w w' : World} {B : Nat} {v : Value} {ns : List Nat} (h : OwnN w B v ns) (hb : Below w.heap.size w w') : OwnN w' B v ns :=
  World.ownsRow.kept (row := none) h ⟨hb.os, hb.tape, hb.output, hb.size, fun k hk _ => hb.block k hk⟩ (by cases hv : v.ownBlock <;> simp)
theorem OwnN.len {w : World} {B : Nat} {v : Value} {ns : List Nat} (h : OwnN w B v ns) : ∃ a c, v = .slice a ns.length c := by
  rcases h.2 with ⟨rfl, hn⟩ | ⟨g, cap, cur, rfl, _⟩
  · exact ⟨none, 0, by rw [hn]⟩
  · exact ⟨_, _, rfl⟩
theorem OwnN.rd {w : World} {B : Nat} {v : Value} {ns : List Nat} (h : OwnN w B v ns) : Rd w v ns.length (ns.map encU) := Rd.of_own h
theorem u64_info : (Try.prog.info? 22).map (fun i => (i.zero, i.size, i.bytes)) = some (some (.int .u64 0), 1, 8) := by kernel_rfl
theorem OwnN.one (w : World) (x : Nat) : OwnN (w.alloc (.cells #[.int .u64 x] 22)) w.heap.size (.slice (some ⟨w.heap.size, 0, none⟩) 1 1) [x] :=
  ⟨rfl, .inr ⟨w.heap.size, 1, _, rfl, Nat.le_refl _, heap_alloc_new w _, Nat.le_refl _, by unfold maxLen; omega, rfl, rfl⟩⟩
/-- 'append(v, u...)' of numbers -/
theorem wpList_append_nums {w : World} {ops : Array Oper} {rest : List Oper} {o : Oper} {a : Act} {Q : Exit → Act → World → Prop} (hgd : o.guard = none) (s x : Operand)
    (ho : o.op = .call { callee := .builtin .append, args := #[s, x], argTypes := #[30, 30] }) (B : Nat) (v v2 : Value) (l m : List Nat)
    (hs : a.eval s = v) (hx : a.eval x = v2) (hown : OwnN w B v l) (h2 : Rd w v2 m.length (m.map encU)) (hlen : (l.length + m.length) * 8 ≤ 140737488355328) (hbase : B ≤ w.heap.size)
    (h : ∀ v' w', OwnN w' B v' (l ++ m) → Below B w w' → wpList Try.prog ops Q rest (a.put o.dst v') w') : wpList Try.prog ops Q (o :: rest) a w := by
  refine wpList_append_rd hgd s x 30 ho B 22 _ 1 8 Try.underlying30 u64_info rfl (by decide) v v2 l.length m.length (l.map encU) (m.map encU) hs hx hown h2 (by simp) (fun u hu => ?_) (by unfold maxLen; omega) hlen hbase ?_
  · obtain ⟨z, _, rfl⟩ := List.mem_map.1 hu; rfl
  intro v' w' ho' hg' _
  refine h v' w' ?_ ((Below.refl B w).grown hg' hbase (fun k hk => (World.ownsRow.lt hown k hk).1))
  unfold OwnN
  rw [List.length_append, List.map_append]
  exact ho'
/-- 'append(v, n)' -/
theorem wpList_append_num {W : World} {ops : Array Oper} {rest : List Oper} {o : Oper} {a : Act} {Q : Exit → Act → World → Prop} (hgd : o.guard = none) (s x : Operand)
    (ho : o.op = .call { callee := .builtin .append, args := #[s, x], argTypes := #[30, 30] }) (B : Nat) (v : Value) (l : List Nat) (p : Nat)
    (hs : a.eval s = v) (hx : a.eval x = .slice (some ⟨W.heap.size, 0, none⟩) 1 1) (hown : OwnN W B v l) (hlen : (l.length + 1) * 8 ≤ 140737488355328) (hbase : B ≤ W.heap.size)
    (h : ∀ v' w', OwnN w' B v' (l ++ [p]) → Below B W w' → wpList Try.prog ops Q rest (a.put o.dst v') w') :
    wpList Try.prog ops Q (o :: rest) a (W.alloc (.cells #[.int .u64 p] 22)) :=
  wpList_append_nums hgd s x ho B v _ l [p] hs hx (hown.alloc _) (Rd.of_own (OwnN.one W p)) (by simpa using hlen) (by simp; omega) (fun v' w' ho' hb' => h v' w' ho' (((Below.refl B W).alloc hbase _).trans hb'))
/-! texts in memory -/
def OwnT (w : World) (B : Nat) (v : Value) (l : List (List UInt8)) : Prop := w.ownsRow B 9 1 v l.length (l.map encStr)
theorem OwnT.nil (w : World) (B : Nat) : OwnT w B (.slice none 0 0) [] := World.ownsRow_nil _ _ _ _
theorem OwnT.alloc {w : World} {B : Nat} {v : Value} {l : List (List UInt8)} (h : OwnT w B v l) (o : Obj) : OwnT (w.alloc o) B v l := World.ownsRow.alloc h o
theorem OwnT.rd {w : World} {B : Nat} {v : Value} {l : List (List UInt8)} (h : OwnT w B v l) : Rd w v l.length (l.map encStr) := Rd.of_own h
theorem OwnT.below {w w' : World} {B : Nat} {v : Value} {l : List (List UInt8)} (h : OwnT w B v l) (hb : Below w.heap.size w w') : OwnT w' B v l :=
  World.ownsRow.kept (row := none) h ⟨hb.os, hb.tape, hb.output, hb.size, fun k hk _ => hb.block k hk⟩ (by cases hv : v.ownBlock <;> simp)
theorem OwnT.len {w : World} {B : Nat} {v : Value} {l : List (List UInt8)} (h : OwnT w B v l) : ∃ a c, v = .slice a l.length c := by
  rcases h.2 with ⟨rfl, hn⟩ | ⟨g, cap, cur, rfl, _⟩
  · exact ⟨none, 0, by rw [hn]⟩
  · exact ⟨_, _, rfl⟩
theorem text_info : (Try.prog.info? 9).map (fun i => (i.zero, i.size, i.bytes)) = some (some (.string ⟨#[]⟩), 1, 16) := by kernel_rfl
theorem OwnT.one (w : World) (u : ByteArray) : OwnT (w.alloc (.cells #[.string u] 9)) w.heap.size (.slice (some ⟨w.heap.size, 0, none⟩) 1 1) [u.data.toList] :=
  ⟨rfl, .inr ⟨w.heap.size, 1, _, rfl, Nat.le_refl _, heap_alloc_new w _, Nat.le_refl _, by unfold maxLen; omega, rfl, rfl⟩⟩
/-- 'append(v, u)' of texts -/
theorem wpList_append_text {W : World} {ops : Array Oper} {rest : List Oper} {o : Oper} {a : Act} {Q : Exit → Act → World → Prop} (hgd : o.guard = none) (s x : Operand)
    (ho : o.op = .call { callee := .builtin .append, args := #[s, x], argTypes := #[58, 58] }) (B : Nat) (v : Value) (l : List (List UInt8)) (u : ByteArray)
    (hs : a.eval s = v) (hx : a.eval x = .slice (some ⟨W.heap.size, 0, none⟩) 1 1) (hown : OwnT W B v l) (hlen : (l.length + 1) * 16 ≤ 140737488355328) (hbase : B ≤ W.heap.size)
    (h : ∀ v' w', OwnT w' B v' (l ++ [u.data.toList]) → Below B W w' → wpList Try.prog ops Q rest (a.put o.dst v') w') :
    wpList Try.prog ops Q (o :: rest) a (W.alloc (.cells #[.string u] 9)) := by
  have hown2 := hown.alloc (.cells #[.string u] 9)
  refine wpList_append_rd hgd s x 58 ho B 9 _ 1 16 Try.underlying58 text_info rfl (by decide) v _ l.length 1 (l.map encStr) [.string u] hs hx hown2 (Rd.of_own (OwnT.one W u)) rfl (fun y hy => ?_) (by unfold maxLen; omega) hlen (by simp; omega) ?_
  · have : y = .string u := by simpa using hy
    subst this; rfl
  · intro v' w' ho' hg' _
    refine h v' w' ?_ (((Below.refl B W).alloc hbase _).grown hg' (by simp; omega) (fun k hk => (World.ownsRow.lt hown2 k hk).1))
    unfold OwnT
    rw [List.length_append, List.map_append]
    exact ho'
end Go.Proofs.Ytcnebfmlelcliaa
namespace Go.Proofs.Ytcnebfmlelcliaa
open Go.RowKit

/-- the first row's number, from one on; 0: there is none -/
def seqN : List Rng → Nat → Nat
  | [], _ => 0
  | r :: l, uid => if r.1 = uid then 1 else match seqN l uid with
    | 0 => 0
    | n + 1 => n + 2
theorem seqN_none : ∀ {l : List Rng} {uid : Nat}, (∀ r ∈ l, r.1 ≠ uid) → seqN l uid = 0
  | [], _, _ => rfl
  | r :: l, uid, h => by
    have h1 : seqN l uid = 0 := seqN_none (fun x hx => h x (by simp [hx]))
    unfold seqN
    rw [if_neg (h r (by simp)), h1]
theorem seqN_at : ∀ {l : List Rng} {uid q : Nat} (hq : q < l.length), (∀ r ∈ l.take q, r.1 ≠ uid) → l[q].1 = uid → seqN l uid = q + 1
  | r :: l, uid, 0, _, _, h => by unfold seqN; rw [if_pos (by simpa using h)]
  | r :: l, uid, q + 1, hq, h1, h2 => by
    have h3 : seqN l uid = q + 1 := seqN_at (by simpa using hq) (fun x hx => h1 x (by simp [hx])) (by simpa using h2)
    unfold seqN
    rw [if_neg (h1 r (by simp)), h3]
theorem seqN_le : ∀ (l : List Rng) (uid : Nat), seqN l uid ≤ l.length
  | [], _ => Nat.le_refl _
  | r :: l, uid => by
    have := seqN_le l uid
    unfold seqN
    split
    · simp
    · split
      · simp
      · rename_i n h; rw [List.length_cons]; omega
theorem row_no {l : List Rng} {q uid : Nat} (hq : q < l.length) (h : ∀ r ∈ l.take q, r.1 ≠ uid) (h2 : l[q].1 ≠ uid) : ∀ r ∈ l.take (q + 1), r.1 ≠ uid := fun r hr => by
  rw [List.take_succ_eq_append_getElem hq, List.mem_append, List.mem_singleton] at hr
  rcases hr with hr | rfl
  · exact h r hr
  · exact h2
theorem rowAt {w : World} {v : Value} {l : List Rng} {B : Nat} (h : RangesIn w B v l) {k : Nat} (hk : k < l.length) : ∃ b o cap, v = .slice (some ⟨b, o, none⟩) l.length cap ∧ b < B ∧ ∀ j (hj : j < l.length), w.cell? ⟨b, o + j * 2, none⟩ = some (.int .u64 l[j].1) ∧ w.cell? ⟨b, o + j * 2 + 1, none⟩ = some (.int .u64 l[j].2) := by
  obtain ⟨ao, cap, rfl, h0 | ⟨b, o, rfl, hb, _, hc⟩⟩ := h
  · rw [h0] at hk; simp at hk
  · exact ⟨b, o, cap, rfl, hb, hc⟩
set_option maxHeartbeats 1000000 in
theorem rowIs_any (r : Rng) (U uid : Nat) (w : World) (hU : Boxed w U 22 (.int .u64 uid)) :
    Calls Try.prog 43 #[.agg #[.int .u64 r.1, .int .u64 r.2], .pointer (some ⟨U, 0, none⟩)] w fun e w' => e = .returned (.bool (decide (r.1 = uid))) ∧ Hid (Below w.heap.size w w') := by
  obtain ⟨f, t⟩ := r
  dsimp only
  have hb := (Below.refl _ w).alloc (Nat.le_refl _) (.cells #[.int .u64 f, .int .u64 t] 63)
  have cU := (boxed_below hU hb).cell
  replace hb := Lib.hid hb
  clear hU
  by_cases h : f = uid
  · have e1 : ((f : Int) == (uid : Int)) = true := by rw [h]; simp
    have hd := Lib.hid (decide_eq_true h)
    clear h
    go_enter Try.func43, Try.ntmps43
    go_wp2_with fail
    go_ret
    exact ⟨by rw [hd.out]; rfl, hb⟩
  · have e1 : ((f : Int) == (uid : Int)) = false := by rw [beq_eq_false_iff_ne]; omega
    have hd := Lib.hid (decide_eq_false h)
    clear h
    go_enter Try.func43, Try.ntmps43
    go_wp2_with fail
    go_ret
    exact ⟨by rw [hd.out]; rfl, hb⟩
set_option maxRecDepth 100000 in
set_option maxHeartbeats 2000000 in
theorem rowIdx_any (l : List Rng) (v : Value) (U uid : Nat) (w : World) (hl : l.length ≤ 9223372036854775807) (hU : Boxed w U 22 (.int .u64 uid)) (hk : RangesIn w w.heap.size v l) :
    Calls Try.prog 42 #[v, .func (.func 43) #[] #[.pointer (some ⟨U, 0, none⟩)]] w fun e w' => e = .returned (.int .i64 ((seqN l uid : Int) - 1)) ∧ Hid (Below w.heap.size w w') := by
  have hk0 := Lib.hid hk
  have hwa := Lib.hid rowIs_any
  obtain ⟨ao, cap, rfl, _⟩ := hk
  replace hU := Lib.hid hU
  go_enter Try.func42, Try.ntmps42
  go_wp2_with fail
  go_loopw [8] (fun v8 wr => ∃ q : Nat, v8 = .int .i64 q ∧ q ≤ l.length ∧ Hid (∀ r ∈ l.take q, r.1 ≠ uid) ∧ Hid (Below w.heap.size w wr)) (fun v8 _ => l.length - (intOf v8).toNat)
  case atStart => exact ⟨0, rfl, Nat.zero_le _, Lib.hid (by simp), Lib.hid (Below.refl _ _)⟩
  case round =>
    obtain ⟨q, rfl, hq, hno, hb⟩ := hrel
    by_cases hlt : q < l.length
    · obtain ⟨ao', cap', hv, hk | ⟨b, o, hao, hbB, hcap, hcells⟩⟩ := hk0.out.later hb.out
      · rw [hk] at hlt; simp at hlt
      · cases hv
        subst hao
        have hc := hcells q hlt
        have hstep := row_no hlt hno.out
        have hyes := seqN_at hlt hno.out
        have hcall := Lib.hid (hwa.out l[q] U uid wr (boxed_below hU.out hb.out))
        generalize l[q] = k at hc hstep hyes hcall
        obtain ⟨c0, c1⟩ := hc
        clear hcells
        by_cases hB : k.1 = uid
        · rw [decide_eq_true hB] at hcall
          have hyy := Lib.hid (hyes hB)
          clear hstep hyes hB
          go_wp2_with fail
          refine hcall.out.mono ?_
          rintro e w3 ⟨rfl, hb3⟩
          have hb4 := Lib.hid (hb.out.trans (hb3.out.mono hb.out.size))
          clear hcall hb3 c0 c1
          go_wp2_with fail
          go_ret
          exact ⟨by rw [hyy.out]; simp, hb4⟩
        · rw [decide_eq_false hB] at hcall
          replace hstep := Lib.hid (hstep hB)
          clear hyes hB
          go_wp2_with fail
          refine hcall.out.mono ?_
          rintro e w3 ⟨rfl, hb3⟩
          have hb4 := Lib.hid (hb.out.trans (hb3.out.mono hb.out.size))
          clear hcall hb3 c0 c1
          go_wp2_with fail
          go_roundw
          case rel => exact ⟨q + 1, by go_num, by omega, hstep, hb4⟩
          case measure => simp [intOf] <;> omega
    · obtain rfl : q = l.length := by omega
      have hz : Hid (seqN l uid = 0) := Lib.hid (seqN_none (by have := hno.out; rwa [List.take_length] at this))
      go_wp2_with fail
      go_ret
      exact ⟨by rw [hz.out]; rfl, hb⟩
set_option maxRecDepth 100000 in
set_option maxHeartbeats 2000000 in
theorem row_any (s : ByteArray) (val : Nat) (l : List Rng) (v : Value) (uid : Nat) (w : World) (hl : l.length ≤ 9223372036854775807) (hk : RangesIn w w.heap.size v l) :
    Calls Try.prog 25 #[.agg #[.string s, .int .u64 val, v], .int .u64 uid] w fun e w' => e = .returned (.int .i64 ((seqN l uid : Int) - 1)) ∧ Hid (Below w.heap.size w w') := by
  obtain ⟨W1, hW1⟩ : ∃ W1, W1 = w.alloc (.cells #[.string s, .int .u64 val, v] 25) := ⟨_, rfl⟩
  obtain ⟨W2, hW2⟩ : ∃ W2, W2 = W1.alloc (.cells #[.int .u64 uid] 22) := ⟨_, rfl⟩
  have s1 : W1.heap.size = w.heap.size + 1 := by rw [hW1]; simp
  have m2 : Boxed W2 (w.heap.size + 1) 22 (.int .u64 uid) := by rw [hW2, ← s1]; exact cells_new W1 _ _
  have b1 : Below w.heap.size w W1 := by rw [hW1]; exact (Below.refl _ w).alloc (Nat.le_refl _) _
  have b2 : Below W1.heap.size W1 W2 := by rw [hW2]; exact (Below.refl _ W1).alloc (Nat.le_refl _) _
  have bw : Below w.heap.size w W2 := b1.trans (b2.mono b1.size)
  have hk2 : RangesIn W2 W2.heap.size v l := (hk.later bw).mono bw.size
  have hcall := rowIdx_any l v (w.heap.size + 1) uid W2 hl m2 hk2
  rw [hW2, hW1] at hcall bw
  replace hcall := Lib.hid hcall
  replace bw := Lib.hid bw
  clear hk2 m2 b1 b2 s1 hW2 hW1 W1 W2
  go_enter Try.func25, Try.ntmps25
  go_wp2_with fail
  refine hcall.out.mono ?_
  rintro e w1 ⟨rfl, hb⟩
  have hb9 := Lib.hid (bw.out.trans (hb.out.mono bw.out.size))
  clear hb bw hcall
  go_wp2_with fail
  go_ret
  exact ⟨rfl, hb9⟩
set_option maxRecDepth 100000 in
set_option maxHeartbeats 2000000 in
theorem seq_any (s : ByteArray) (val : Nat) (l : List Rng) (v : Value) (uid : Nat) (w : World) (hl : l.length ≤ 1000000) (hk : RangesIn w w.heap.size v l) :
    Calls Try.prog 10 #[.agg #[.string s, .int .u64 val, v], .int .u64 uid] w fun e w' => e = .returned (.int .i64 (seqN l uid : Nat)) ∧ Hid (Below w.heap.size w w') := by
  have bw := (Below.refl w.heap.size w).alloc (Nat.le_refl _) (.cells #[.string s, .int .u64 val, v] 25)
  have hcall := Lib.hid (row_any s val l v uid (w.alloc (.cells #[.string s, .int .u64 val, v] 25)) (by omega) ((hk.later bw).mono bw.size))
  have hle := seqN_le l uid
  generalize seqN l uid = n at hcall hle ⊢
  have hw : IntKind.i64.wrap ((n : Int) - 1 + 1) = (n : Int) := by rw [IntKind.wrap_i64]; omega
  have hw2 : IntKind.i64.wrap (n : Int) = (n : Int) := by rw [IntKind.wrap_i64]; omega
  replace bw := Lib.hid bw
  clear hle hl
  go_enter Try.func10, Try.ntmps10
  go_wp2_with fail
  refine hcall.out.mono ?_
  rintro e w1 ⟨rfl, hb⟩
  have hb9 := Lib.hid (bw.out.trans (hb.out.mono bw.out.size))
  clear hb bw hcall
  go_wp2_with fail
  go_ret
  exact ⟨by simp, hb9⟩
set_option maxRecDepth 100000 in
set_option maxHeartbeats 2000000 in
theorem refSeq_any (s : ByteArray) (val : Nat) (l : List Rng) (v : Value) (uid : Nat) (w : World) (hl : l.length ≤ 1000000) (hk : RangesIn w w.heap.size v l) :
    Calls Try.prog 11 #[.agg #[.string s, .int .u64 val, v], .int .u64 uid] w fun e w' => e = .returned (.int .i64 (seqN l uid : Nat)) ∧ Hid (Below w.heap.size w w') := by
  have hb0 := (Below.refl w.heap.size w).alloc (Nat.le_refl _) (.cells #[.string s, .int .u64 val, v] 25)
  have hk0 := Lib.hid (hk.later hb0)
  have hbox := cells_new w #[.string s, .int .u64 val, v] 25
  obtain ⟨ao, cap, rfl, _⟩ := hk
  have hc2 := cell_at hbox 2
  replace hb0 := Lib.hid hb0
  clear hbox
  go_enter Try.func11, Try.ntmps11
  go_wp2_with fail
  go_loopw [5] (fun v5 wr => ∃ q : Nat, v5 = .int .i64 q ∧ q ≤ l.length ∧ Hid (∀ r ∈ l.take q, r.1 ≠ uid) ∧ wr = w.alloc (.cells #[.string s, .int .u64 val, .slice ao l.length cap] 25)) (fun v5 _ => l.length - (intOf v5).toNat)
  case atStart => exact ⟨0, rfl, Nat.zero_le _, Lib.hid (by simp), by trivial⟩
  case round =>
    obtain ⟨q, rfl, hq, hno, rfl⟩ := hrel
    by_cases hlt : q < l.length
    · obtain ⟨b, o, cap', hv, hbB, hcells⟩ := rowAt hk0.out hlt
      injection hv with q1 q2 q3
      subst q1 q3
      obtain ⟨c0, c1⟩ := hcells q hlt
      have hl1 : (q : Int) < (l.length : Int) := by omega
      have hstep := row_no hlt hno.out
      have hyes := seqN_at hlt hno.out
      generalize l[q] = k at c0 c1 hstep hyes
      obtain ⟨f, t⟩ := k
      dsimp only at c0 c1 hstep hyes
      clear hcells
      by_cases hB : f = uid
      · have e1 : ((f : Int) == (uid : Int)) = true := by rw [hB]; simp
        have hyy := Lib.hid (hyes hB)
        have hw : IntKind.i64.wrap ((q : Int) + 1) = (q : Int) + 1 := by rw [IntKind.wrap_i64]; omega
        clear hstep hyes hB
        go_wp2_with fail
        go_ret
        exact ⟨by rw [hyy.out]; rfl, hb0⟩
      · have e1 : ((f : Int) == (uid : Int)) = false := by rw [beq_eq_false_iff_ne]; omega
        replace hstep := Lib.hid (hstep hB)
        clear hyes hB
        go_wp2_with fail
        go_roundw
        case rel => exact ⟨q + 1, by go_num, by omega, hstep, by trivial⟩
        case measure => simp [intOf] <;> omega
    · obtain rfl : q = l.length := by omega
      have hz : Hid (seqN l uid = 0) := Lib.hid (seqN_none (by have := hno.out; rwa [List.take_length] at this))
      go_wp2_with fail
      go_ret
      exact ⟨by rw [hz.out]; rfl, hb0⟩
end Go.Proofs.Ytcnebfmlelcliaa
namespace Go.Proofs.Ytcnebfmlelcliaa
open Go.RowKit

def OwnW (w : World) (B : Nat) (v : Value) (rs : List Rng) : Prop := w.ownsRow B 63 2 v rs.length (rangesCells rs)
theorem OwnW.nil (w : World) (B : Nat) : OwnW w B (.slice none 0 0) [] := World.ownsRow_nil _ _ _ _
theorem OwnW.alloc {w : World} {B : Nat} {v : Value} {rs : List Rng} (h : OwnW w B v rs) (o : Obj) : OwnW (w.alloc o) B v rs := World.ownsRow.alloc h o
theorem OwnW.below {w w' : World} {B : Nat} {v : Value} {rs : List Rng} (h : OwnW w B v rs) (hb : Below w.heap.size w w') : OwnW w' B v rs :=
  World.ownsRow.kept (row := none) h ⟨hb.os, hb.tape, hb.output, hb.size, fun k hk _ => hb.block k hk⟩ (by cases hv : v.ownBlock <;> simp)
theorem OwnW.len {w : World} {B : Nat} {v : Value} {rs : List Rng} (h : OwnW w B v rs) : ∃ a c, v = .slice a rs.length c := by
  rcases h.2 with ⟨rfl, hn⟩ | ⟨g, cap, cur, rfl, _⟩
  · exact ⟨none, 0, by rw [hn]⟩
  · exact ⟨_, _, rfl⟩
theorem row_info : (Try.prog.info? 63).map (fun i => (i.zero, i.size, i.bytes)) = some (some (.agg #[.int .u64 0, .int .u64 0]), 2, 16) := by kernel_rfl
theorem OwnW.ranges {w : World} {B : Nat} {v : Value} {rs : List Rng} (h : OwnW w B v rs) : RangesIn w w.heap.size v rs := Rd.ranges (Rd.of_own h)
theorem OwnW.one (w : World) (x y : Nat) : OwnW (w.alloc (.cells #[.int .u64 x, .int .u64 y] 63)) w.heap.size (.slice (some ⟨w.heap.size, 0, none⟩) 1 1) [(x, y)] :=
  ⟨rfl, .inr ⟨w.heap.size, 1, _, rfl, Nat.le_refl _, heap_alloc_new w _, Nat.le_refl _, by unfold maxLen; omega, rfl, rfl⟩⟩
/-- 'append(v, u...)' of ranges -/
theorem wpList_append_rows {w : World} {ops : Array Oper} {rest : List Oper} {o : Oper} {a : Act} {Q : Exit → Act → World → Prop} (hgd : o.guard = none) (s x : Operand)
    (ho : o.op = .call { callee := .builtin .append, args := #[s, x], argTypes := #[23, 23] }) (B : Nat) (v v2 : Value) (l m : List Rng)
    (hs : a.eval s = v) (hx : a.eval x = v2) (hown : OwnW w B v l) (h2 : Rd w v2 m.length (rangesCells m)) (hlen : (l.length + m.length) * 16 ≤ 140737488355328) (hbase : B ≤ w.heap.size)
    (h : ∀ v' w', OwnW w' B v' (l ++ m) → Below B w w' → wpList Try.prog ops Q rest (a.put o.dst v') w') : wpList Try.prog ops Q (o :: rest) a w := by
  refine wpList_append_rd hgd s x 23 ho B 63 _ 2 16 Try.underlying23 row_info rfl (by decide) v v2 l.length m.length (rangesCells l) (rangesCells m) hs hx hown h2 (rangesCells_len m) (rangesCells_one m) (by unfold maxLen; omega) hlen hbase ?_
  intro v' w' ho' hg' _
  refine h v' w' ?_ ((Below.refl B w).grown hg' hbase (fun k hk => (World.ownsRow.lt hown k hk).1))
  unfold OwnW
  rw [List.length_append, rangesCells_app]
  exact ho'
/-- 'append(v, Range{x, y})' -/
theorem wpList_append_row {W : World} {ops : Array Oper} {rest : List Oper} {o : Oper} {a : Act} {Q : Exit → Act → World → Prop} (hgd : o.guard = none) (s x : Operand)
    (ho : o.op = .call { callee := .builtin .append, args := #[s, x], argTypes := #[23, 23] }) (B : Nat) (v : Value) (l : List Rng) (p q : Nat)
    (hs : a.eval s = v) (hx : a.eval x = .slice (some ⟨W.heap.size, 0, none⟩) 1 1) (hown : OwnW W B v l) (hlen : (l.length + 1) * 16 ≤ 140737488355328) (hbase : B ≤ W.heap.size)
    (h : ∀ v' w', OwnW w' B v' (l ++ [(p, q)]) → Below B W w' → wpList Try.prog ops Q rest (a.put o.dst v') w') :
    wpList Try.prog ops Q (o :: rest) a (W.alloc (.cells #[.int .u64 p, .int .u64 q] 63)) :=
  wpList_append_rows hgd s x ho B v _ l [(p, q)] hs hx (hown.alloc _) (Rd.of_own (OwnW.one W p q)) (by simpa using hlen) (by simp; omega) (fun v' w' ho' hb' => h v' w' ho' (((Below.refl B W).alloc hbase _).trans hb'))
theorem owns_emptyW (w : World) : OwnW (w.alloc (.cells #[] 63)) w.heap.size (.slice (some ⟨w.heap.size, 0, none⟩) 0 0) [] :=
  ⟨rfl, .inr ⟨w.heap.size, 0, #[], rfl, Nat.le_refl _, heap_alloc_new w _, Nat.le_refl _, by unfold maxLen; omega, rfl, rfl⟩⟩
set_option maxRecDepth 100000 in
set_option maxHeartbeats 2000000 in
theorem cloneRows_any (l : List Rng) (v : Value) (w : World) (hl : l.length ≤ 1000000) (hk : RangesIn w w.heap.size v l) :
    Calls Try.prog 26 #[v] w fun e w' => ∃ v', e = .returned v' ∧ Hid (OwnW w' w.heap.size v' l) ∧ Hid (Below w.heap.size w w') := by
  have hk0 := Lib.hid hk
  obtain ⟨ao, cap, rfl, h0⟩ := hk
  cases ao with
  | none =>
    have e : l = [] := by
      rcases h0 with h | ⟨b, o, h, _⟩
      · exact h
      · cases h
    subst e
    clear h0
    have he : ∀ W : World, (binOp .eql 23 (.slice none 0 cap) (.slice none 0 0)).run Try.prog W = .ok (.bool true) W := fun _ => rfl
    change Calls Try.prog 26 #[.slice none 0 cap] w _
    go_enter Try.func26, Try.ntmps26
    go_wp2_with fail
    go_ret
    exact ⟨_, rfl, Lib.hid (OwnW.nil _ _), Lib.hid (Below.refl _ _)⟩
  | some p =>
    clear h0
    have he : ∀ W : World, (binOp .eql 23 (.slice (some p) l.length cap) (.slice none 0 0)).run Try.prog W = .ok (.bool false) W := fun _ => rfl
    go_enter Try.func26, Try.ntmps26
    go_wp2_with (at_builtin; refine wpList_append_rows rfl (.tmp 5) (.tmp 6) rfl w.heap.size _ _ [] l rfl rfl (owns_emptyW w) ((hk0.out.on ((Below.refl _ _).alloc (Nat.le_refl _) _)).rd) (by simp; omega) (by simp) ?_)
    intro v3 w4 hown4 hb4
    have hb5 : Hid (Below w.heap.size w w4) := Lib.hid (((Below.refl w.heap.size w).alloc (Nat.le_refl _) (.cells #[] 63)).trans hb4)
    have hown5 : Hid (OwnW w4 w.heap.size v3 l) := Lib.hid hown4
    clear hown4 hb4
    go_wp2_with fail
    go_ret
    exact ⟨_, rfl, hown5, hb5⟩
set_option maxRecDepth 100000 in
set_option maxHeartbeats 4000000 in
theorem same22_any (s : ByteArray) (val : Nat) (l : List Rng) (va vb : Value) (w : World) (hl : l.length ≤ 1000000) (ha : RangesIn w w.heap.size va l) (hb : RangesIn w w.heap.size vb l) :
    Calls Try.prog 7 #[.agg #[.string s, .int .u64 val, va], .agg #[.string s, .int .u64 val, vb]] w fun e w' => e = .returned (.bool true) ∧ Hid (Below w.heap.size w w') := by
  obtain ⟨W1, hW1⟩ : ∃ W1, W1 = w.alloc (.cells #[.string s, .int .u64 val, va] 25) := ⟨_, rfl⟩
  obtain ⟨W2, hW2⟩ : ∃ W2, W2 = W1.alloc (.cells #[.string s, .int .u64 val, vb] 25) := ⟨_, rfl⟩
  have s1 : W1.heap.size = w.heap.size + 1 := by rw [hW1]; simp
  have b1 : Below w.heap.size w W1 := by rw [hW1]; exact (Below.refl _ w).alloc (Nat.le_refl _) _
  have b2 : Below W1.heap.size W1 W2 := by rw [hW2]; exact (Below.refl _ W1).alloc (Nat.le_refl _) _
  have bw : Below w.heap.size w W2 := b1.trans (b2.mono b1.size)
  have h1 : W2.heap[w.heap.size]? = some (.cells #[.string s, .int .u64 val, va] 25 (0, 0)) := heap_below (by rw [hW1]; exact cells_new w _ _) b2
  have h2 : W2.heap[w.heap.size + 1]? = some (.cells #[.string s, .int .u64 val, vb] 25 (0, 0)) := by rw [hW2, ← s1]; exact cells_new W1 _ _
  have ha0 := Lib.hid (ha.on bw)
  have hb0 := Lib.hid (hb.on bw)
  have L1 := (Array.getElem?_eq_some_iff.1 h1).1
  have L2 := (Array.getElem?_eq_some_iff.1 h2).1
  have hm : Hid (∀ W, Below W2.heap.size W2 W → W.cell? ⟨w.heap.size, 2, none⟩ = some va ∧ W.cell? ⟨w.heap.size + 1, 2, none⟩ = some vb) := Lib.hid (fun W hW => ⟨by rw [hW.cell (p := ⟨w.heap.size, 2, none⟩) L1, cell_at h1 2]; rfl, by rw [hW.cell (p := ⟨w.heap.size + 1, 2, none⟩) L2, cell_at h2 2]; rfl⟩)
  replace bw := Lib.hid bw
  obtain ⟨ao, cap, rfl, -⟩ := ha
  obtain ⟨ao2, cap2, rfl, -⟩ := hb
  clear h1 h2 L1 L2 b1 b2 s1
  rw [hW1] at hW2
  clear hW1 W1
  have hne : ((l.length : Int) != (l.length : Int)) = false := by simp
  go_enter Try.func7, Try.ntmps7
  go_wp2_with fail
  rw [← hW2]
  clear hW2
  go_loopw [5] (fun v5 wr => ∃ q : Nat, v5 = .int .i64 q ∧ q ≤ l.length ∧ Hid (Below W2.heap.size W2 wr)) (fun v5 _ => l.length - (intOf v5).toNat)
  case atStart => exact ⟨0, rfl, Nat.zero_le _, Lib.hid (Below.refl _ _)⟩
  case round =>
    obtain ⟨q, rfl, hq, hbl⟩ := hrel
    obtain ⟨m1, m2⟩ := hm.out _ hbl.out
    by_cases hlt : q < l.length
    · obtain ⟨b1, o1, p1, hv1, hB1, hcells1⟩ := rowAt (ha0.out.later hbl.out) hlt
      obtain ⟨b2, o2, p2, hv2, hB2, hcells2⟩ := rowAt (hb0.out.later hbl.out) hlt
      cases hv1
      cases hv2
      obtain ⟨c0, c1⟩ := hcells1 q hlt
      obtain ⟨d0, d1⟩ := hcells2 q hlt
      generalize l[q] = x at c0 c1 d0 d1
      obtain ⟨x0, x1⟩ := x
      dsimp only at c0 c1 d0 d1
      clear hcells1 hcells2
      have hbW := Lib.hid (fun m => below_drewN hbl.out m)
      have hi0 : (0 : Int) ≤ (q : Int) := by omega
      have hi1 : (q : Int) < (l.length : Int) := by omega
      go_wp2_with fail
      go_quiet (fail)
      go_wp2_with fail
      go_roundw
      case rel => exact ⟨q + 1, by go_num, by omega, Lib.hid (hbW.out _)⟩
      case measure => simp [intOf] <;> omega
    · obtain rfl : q = l.length := by omega
      have hB := Lib.hid (bw.out.trans (hbl.out.mono bw.out.size))
      go_wp2_with fail
      go_ret
      exact ⟨rfl, hB⟩
end Go.Proofs.Ytcnebfmlelcliaa
namespace Go.Proofs.Ytcnebfmlelcliaa
open Go.RowKit

theorem vcells_set {W : World} {g : Nat} {C : List Value} {t : TypeId} (h : W.heap[g]? = some (.cells C.toArray t (0, 0))) (j : Nat) (v : Value) : (W.setCell ⟨g, j, none⟩ v).heap[g]? = some (.cells (C.set j v).toArray t (0, 0)) := by
  simp only [World.setCell, Array.getElem?_modify, h, if_true, Option.map_some]
  rw [← List.setIfInBounds_toArray]
  rfl
theorem cell_nf {W : World} {b : Nat} {C : Array Value} {t : TypeId} (h : W.heap[b]? = some (.cells C t (0, 0))) (j : Nat) : W.frozen? ⟨b, j, none⟩ = false := by simp [World.frozen?, h]
theorem rangesCells_set : ∀ (l : List Rng) (j : Nat) (hj : j < l.length) (c : Nat), rangesCells (l.set j (l[j].1, c)) = (rangesCells l).set (j * 2 + 1) (.int .u64 c)
  | r :: l, 0, _, c => by simp [rangesCells, rngCells]
  | r :: l, j + 1, hj, c => by
    have h := rangesCells_set l j (by simpa using hj) c
    show rngCells r ++ rangesCells (l.set j _) = (rngCells r ++ rangesCells l).set _ _
    rw [List.set_append_right _ _ (by show 2 ≤ _; omega)]
    have e : (j + 1) * 2 + 1 - (rngCells r).length = j * 2 + 1 := by show (j + 1) * 2 + 1 - 2 = _; omega
    rw [e, ← h]
    rfl
theorem OwnW.at_ {w : World} {B : Nat} {v : Value} {l : List Rng} (h : OwnW w B v l) {j : Nat} (hj : j < l.length) :
    ∃ g cap, v = .slice (some ⟨g, 0, none⟩) l.length cap ∧ B ≤ g ∧ g < w.heap.size ∧ w.cell? ⟨g, j * 2 + 1, none⟩ = some (.int .u64 l[j].2) ∧ w.frozen? ⟨g, j * 2 + 1, none⟩ = false ∧ ∀ c : Nat, OwnW (w.setCell ⟨g, j * 2 + 1, none⟩ (.int .u64 c)) B v (l.set j (l[j].1, c)) := by
  rcases h.2 with ⟨_, h0⟩ | ⟨g, cap, cur, hv, hB, hg, hle, hm, hs, htk⟩
  · omega
  · have hri := rangesCells_len l
    have hsz : cur.size = cap * 2 := by omega
    refine ⟨g, cap, hv, hB, (Array.getElem?_eq_some_iff.1 hg).1, ?_, ?_, fun c => ⟨rangesCells_len _, .inr ⟨g, cap, cur.setIfInBounds (j * 2 + 1) (.int .u64 c), by rw [List.length_set]; exact hv, hB, ?_, by simpa using hle, hm, by simpa using hs, ?_⟩⟩⟩
    · have h1 : cur.toList[j * 2 + 1]? = (rangesCells l)[j * 2 + 1]? := by
        rw [← htk, List.getElem?_take_of_lt (by omega)]
      rw [rangesCells_get l j hj 1 (by omega)] at h1
      simp only [World.cell?, hg]
      rw [← Array.getElem?_toList, h1]
      rfl
    · simp [World.frozen?, hg]
    · simp only [World.setCell, Array.getElem?_modify, hg, if_true, Option.map_some]
      rfl
    · rw [List.length_set, Array.toList_setIfInBounds, List.take_set, htk, rangesCells_set l j hj c]
theorem OwnW.setOther {w : World} {B : Nat} {v : Value} {l : List Rng} (h : OwnW w B v l) {X j : Nat} (u : Value) (hX : X < B) : OwnW (w.setCell ⟨X, j, none⟩ u) B v l := by
  rcases h.2 with h0 | ⟨g, cap, cur, hv, hB, hg, r⟩
  · exact ⟨h.1, .inl h0⟩
  · exact ⟨h.1, .inr ⟨g, cap, cur, hv, hB, by rw [Below.heap_setCell _ _ _ _ (by show g ≠ X; omega)]; exact hg, r⟩⟩
theorem OwnW.low {w : World} {B B' : Nat} {v : Value} {l : List Rng} (h : OwnW w B v l) (hB : B' ≤ B) : OwnW w B' v l := by
  refine ⟨h.1, ?_⟩
  rcases h.2 with h2 | ⟨g, cap, cur, hv, hb, r⟩
  · exact .inl h2
  · exact .inr ⟨g, cap, cur, hv, Nat.le_trans hB hb, r⟩
theorem two_new (w : World) (o1 o2 : Obj) : ((w.alloc o1).alloc o2).heap[w.heap.size]? = some o1 ∧ ((w.alloc o1).alloc o2).heap[w.heap.size + 1]? = some o2 := by
  have e : (w.alloc o1).heap.size = w.heap.size + 1 := by simp
  refine ⟨heap_below (heap_alloc_new w _) ((Below.refl _ _).alloc (Nat.le_refl _) _), ?_⟩
  rw [← e]; exact heap_alloc_new _ _
def tellL (l : List Rng) (uid mod : Nat) : List Rng := match seqN l uid with
  | 0 => l
  | n + 1 => l.set n ((l.getD n (0, 0)).1, mod)
set_option maxRecDepth 100000 in
set_option maxHeartbeats 4000000 in
theorem told_any (s : ByteArray) (val : Nat) (l : List Rng) (v : Value) (uid mod : Nat) (w : World) (hl : l.length ≤ 1000000) (hk : RangesIn w w.heap.size v l) :
    Calls Try.prog 12 #[.agg #[.string s, .int .u64 val, v], .int .u64 uid, .int .u64 mod] w fun e w' => ∃ v', e = .returned (.agg #[.string s, .int .u64 val, v']) ∧ Hid (OwnW w' w.heap.size v' (tellL l uid mod)) ∧ Hid (Below w.heap.size w w') := by
  have hcl := Lib.hid (fun W (hW : Below w.heap.size w W) => cloneRows_any l v W hl (hk.on hW))
  go_enter Try.func12, Try.ntmps12
  go_wp2_with fail
  refine (hcl.out _ (((Below.refl _ _).alloc (Nat.le_refl _) _).alloc (by simp) _)).mono ?_
  rintro e w1 ⟨v', rfl, hown, hb1⟩
  have hB1 := Lib.hid (((((Below.refl w.heap.size w).alloc (Nat.le_refl _) _).alloc (by simp) _)).trans (hb1.out.mono (by simp; omega)))
  have t1 := heap_below (two_new w _ _).1 hb1.out
  have t2 := heap_below (two_new w _ _).2 hb1.out
  have hown1 : Hid (OwnW w1 (w.heap.size + 1 + 1) v' l) := Lib.hid (by simpa using hown.out)
  clear hown hb1 hcl hk
  have L1 := (Array.getElem?_eq_some_iff.1 t1).1
  have c2 := cell_at t1 2
  have f2 := cell_nf t1 2
  obtain ⟨a1, q1, rfl⟩ := hown1.out.len
  have t1' := vcells_set (C := [_, _, _]) t1 2 (.slice a1 l.length q1)
  have d0 := cell_at t1' 0
  have d1 := cell_at t1' 1
  have d2 := cell_at t1' 2
  simp at c2 d0 d1 d2
  have hown3 := Lib.hid (hown1.out.setOther (X := w.heap.size) (j := 2) (.slice a1 l.length q1) (by omega))
  have hB3 := Lib.hid (hB1.out.setCell (p := ⟨w.heap.size, 2, none⟩) (Nat.le_refl _) (.slice a1 l.length q1))
  have t2' : (w1.setCell ⟨w.heap.size, 2, none⟩ (.slice a1 l.length q1)).heap[w.heap.size + 1]? = _ := (Below.heap_setCell _ _ _ _ (by show _ ≠ _; simp)).trans t2
  have hsz3 : w.heap.size + 1 + 1 ≤ (w1.setCell ⟨w.heap.size, 2, none⟩ (.slice a1 l.length q1)).heap.size := by have := (Array.getElem?_eq_some_iff.1 t2).1; simp; omega
  have hcr := Lib.hid (row_any s val l _ uid _ (by omega) hown3.out.ranges)
  clear hown1 hB1 t1 t2
  go_wp2_with fail
  generalize w1.setCell ⟨w.heap.size, 2, none⟩ (.slice a1 l.length q1) = W3 at *
  clear c2 f2 L1
  refine hcr.out.mono ?_
  rintro e w4 ⟨rfl, hb4⟩
  have hown4 := Lib.hid (hown3.out.below hb4.out)
  have hB4 := Lib.hid (hB3.out.trans (hb4.out.mono hB3.out.size))
  have u1 := heap_below t1' hb4.out
  have u2 := heap_below t2' hb4.out
  clear hcr hown3 hB3 t1' t2' d0 d1 d2 hb4 hsz3
  have d0 := cell_at u1 0
  have d1 := cell_at u1 1
  have d2 := cell_at u1 2
  have f0 := cell_nf u2 0
  have f1 := cell_nf u2 1
  have f2 := cell_nf u2 2
  simp at d0 d1 d2
  have g0 := cell_at u2 0
  have g1 := cell_at u2 1
  have g2 := cell_at u2 2
  simp at g0 g1 g2
  have hsle := seqN_le l uid
  have htell : Hid (tellL l uid mod = match seqN l uid with | 0 => l | n + 1 => l.set n ((l.getD n (0, 0)).1, mod)) := Lib.hid rfl
  generalize seqN l uid = sn at hsle htell ⊢
  cases sn with
  | zero =>
    have fin := vcells_set (C := [_, _, _]) (vcells_set (C := [_, _, _]) (vcells_set (C := [_, _, _]) u2 0 (.string s)) 1 (.int .u64 val)) 2 (.slice a1 l.length q1)
    clear u1 u2
    replace fin := Lib.hid fin
    go_wp2_with fail
    refine bodyPost_ret (results_cell_row rfl _ _ _ 25 _ (0, 0) _ rfl fin.out Try.underlying25 rfl rfl) rfl ⟨.slice a1 l.length q1, rfl, Lib.hid ?_, Lib.hid (((hB4.out.setCell (p := ⟨w.heap.size + 1, 0, none⟩) (by simp) _).setCell (p := ⟨w.heap.size + 1, 1, none⟩) (by simp) _).setCell (p := ⟨w.heap.size + 1, 2, none⟩) (by simp) _)⟩
    rw [htell.out]
    exact (((hown4.out.setOther _ (by omega)).setOther _ (by omega)).setOther _ (by omega)).low (by omega)
  | succ n =>
    have hn : n < l.length := by omega
    obtain ⟨g, cap, hv, hBg, hgl, hcg, hfg, hset⟩ := hown4.out.at_ hn
    injection hv with q1' q2' q3'
    subst q1' q3'
    have hown5 := Lib.hid (hset mod)
    have hget : l.getD n (0, 0) = l[n] := by simp [List.getD, hn]
    change Hid (tellL l uid mod = l.set n ((l.getD n (0, 0)).1, mod)) at htell
    rw [hget] at htell
    have hNg : w.heap.size ≠ g := by omega
    have hNg1 : w.heap.size + 1 ≠ g := by omega
    have v1 : (w4.setCell ⟨g, n * 2 + 1, none⟩ (.int .u64 mod)).heap[w.heap.size]? = _ := (Below.heap_setCell _ _ _ _ hNg).trans u1
    have v2 : (w4.setCell ⟨g, n * 2 + 1, none⟩ (.int .u64 mod)).heap[w.heap.size + 1]? = _ := (Below.heap_setCell _ _ _ _ hNg1).trans u2
    have hB5 := Lib.hid (hB4.out.setCell (p := ⟨g, n * 2 + 1, none⟩) (by show w.heap.size ≤ g; omega) (.int .u64 mod))
    have fin := vcells_set (C := [_, _, _]) (vcells_set (C := [_, _, _]) (vcells_set (C := [_, _, _]) v2 0 (.string s)) 1 (.int .u64 val)) 2 (.slice (some ⟨g, 0, none⟩) l.length q1)
    have e0 := cell_at v1 0
    have e1 := cell_at v1 1
    have e2 := cell_at v1 2
    have f0' := cell_nf v2 0
    have f1' := cell_nf v2 1
    have f2' := cell_nf v2 2
    have g0' := cell_at v2 0
    have g1' := cell_at v2 1
    have g2' := cell_at v2 2
    simp at e0 e1 e2 g0' g1' g2'
    have hd0 : decide ((0 : Int) ≤ (n : Int)) = true := decide_eq_true (by omega)
    have hi0 : (0 : Int) ≤ (n : Int) := by omega
    have hi1 : (n : Int) < (l.length : Int) := by omega
    generalize l[n] = r at hcg hset htell hown5
    obtain ⟨r1, r2⟩ := r
    dsimp only at hcg htell hown5
    have hBg2 := Lib.hid hBg
    clear u1 u2 v1 v2 hset hsle hBg hgl hget hNg hNg1 f0 f1 f2 g0 g1 g2
    replace fin := Lib.hid fin
    go_wp2_with fail
    refine bodyPost_ret (results_cell_row rfl _ _ _ 25 _ (0, 0) _ rfl fin.out Try.underlying25 rfl rfl) rfl ⟨.slice (some ⟨g, 0, none⟩) l.length q1, rfl, Lib.hid ?_, Lib.hid (((hB5.out.setCell (p := ⟨w.heap.size + 1, 0, none⟩) (by simp) _).setCell (p := ⟨w.heap.size + 1, 1, none⟩) (by simp) _).setCell (p := ⟨w.heap.size + 1, 2, none⟩) (by simp) _)⟩
    rw [htell.out]
    exact (((hown5.out.setOther _ (by omega)).setOther _ (by omega)).setOther _ (by omega)).low (by omega)
end Go.Proofs.Ytcnebfmlelcliaa
namespace Go.Proofs.Ytcnebfmlelcliaa
open Go.RowKit

def mostL (l : List Rng) : Nat := l.foldl (fun m r => max m r.1) 0
theorem mostL_step {l : List Rng} {k : Nat} (h : k < l.length) : mostL (l.take (k + 1)) = max (mostL (l.take k)) l[k].1 := by
  unfold mostL
  rw [List.take_succ_eq_append_getElem h, List.foldl_append]; rfl
set_option maxRecDepth 100000 in
set_option maxHeartbeats 2000000 in
theorem greatest_any (s : ByteArray) (val : Nat) (l : List Rng) (v : Value) (w : World) (hl : l.length ≤ 1000000) (hk : RangesIn w w.heap.size v l) :
    Calls Try.prog 30 #[.agg #[.string s, .int .u64 val, v]] w fun e w' => e = .returned (.int .u64 (mostL l : Nat)) ∧ Hid (Below w.heap.size w w') := by
  have hk0 := Lib.hid hk
  obtain ⟨ao, cap, rfl, _⟩ := hk
  go_enter Try.func30, Try.ntmps30
  go_wp2_with fail
  go_loopw [3, 9] (fun v3 v9 wr => ∃ q : Nat, v9 = .int .i64 q ∧ q ≤ l.length ∧ v3 = .int .u64 (mostL (l.take q) : Nat) ∧ Hid (Below w.heap.size w wr)) (fun _ v9 _ => l.length - (intOf v9).toNat)
  case atStart => exact ⟨0, rfl, Nat.zero_le _, rfl, Lib.hid ((Below.refl _ _).alloc (Nat.le_refl _) _)⟩
  case round =>
    obtain ⟨q, rfl, hq, rfl, hb⟩ := hrel
    by_cases hlt : q < l.length
    · obtain ⟨b, o, cap', hv, hbB, hcells⟩ := rowAt (hk0.out.later hb.out) hlt
      injection hv with q1 q2 q3
      subst q1 q3
      obtain ⟨c0, c1⟩ := hcells q hlt
      have hl1 : (q : Int) < (l.length : Int) := by omega
      have hst := Lib.hid (mostL_step hlt)
      generalize l[q] = k at c0 c1 hst
      obtain ⟨f, t⟩ := k
      dsimp only at c0 c1
      generalize mostL (l.take q) = m at hst ⊢
      have hb2 := Lib.hid (hb.out.alloc hb.out.size (.cells #[.int .u64 f, .int .u64 t] 63))
      clear hcells
      go_wp2_with fail
      go_roundw
      case rel => exact ⟨q + 1, by go_num, by omega, by rw [hst.out]; dsimp only; congr 1; omega, hb2⟩
      case measure => simp [intOf] <;> omega
    · obtain rfl : q = l.length := by omega
      rw [List.take_length]
      go_wp2_with fail
      go_ret
      exact ⟨rfl, hb⟩
set_option maxRecDepth 100000 in
set_option maxHeartbeats 2000000 in
theorem most_any (s : ByteArray) (val : Nat) (l : List Rng) (v : Value) (w : World) (hl : l.length ≤ 1000000) (hk : RangesIn w w.heap.size v l) :
    Calls Try.prog 33 #[.agg #[.string s, .int .u64 val, v]] w fun e w' => e = .returned (.int .u64 (mostL l : Nat)) ∧ Hid (Below w.heap.size w w') := by
  have hb0 := (Below.refl w.heap.size w).alloc (Nat.le_refl _) (.cells #[.string s, .int .u64 val, v] 25)
  have hk0 := Lib.hid (hk.later hb0)
  have hbox := cells_new w #[.string s, .int .u64 val, v] 25
  obtain ⟨ao, cap, rfl, _⟩ := hk
  have hc2 := cell_at hbox 2
  replace hb0 := Lib.hid hb0
  clear hbox
  go_enter Try.func33, Try.ntmps33
  go_wp2_with fail
  go_loopw [3, 4] (fun v3 v4 wr => ∃ q : Nat, v4 = .int .i64 q ∧ q ≤ l.length ∧ v3 = .int .u64 (mostL (l.take q) : Nat) ∧ wr = w.alloc (.cells #[.string s, .int .u64 val, .slice ao l.length cap] 25)) (fun _ v4 _ => l.length - (intOf v4).toNat)
  case atStart => exact ⟨0, rfl, Nat.zero_le _, rfl, by trivial⟩
  case round =>
    obtain ⟨q, rfl, hq, rfl, rfl⟩ := hrel
    by_cases hlt : q < l.length
    · obtain ⟨b, o, cap', hv, hbB, hcells⟩ := rowAt hk0.out hlt
      injection hv with q1 q2 q3
      subst q1 q3
      obtain ⟨c0, c1⟩ := hcells q hlt
      have hl1 : (q : Int) < (l.length : Int) := by omega
      have hst := Lib.hid (mostL_step hlt)
      generalize l[q] = k at c0 c1 hst
      obtain ⟨f, t⟩ := k
      dsimp only at c0 c1
      generalize mostL (l.take q) = m at hst ⊢
      clear hcells
      by_cases hm : m < f
      · have d1 : decide ((m : Int) < (f : Int)) = true := decide_eq_true (by omega)
        have d1n : decide (m < f) = true := decide_eq_true hm
        have hst2 : Hid (mostL (l.take (q + 1)) = f) := Lib.hid (by rw [hst.out]; dsimp only; omega)
        clear hm hst
        go_wp2_with fail
        go_roundw
        case rel => exact ⟨q + 1, by go_num, by omega, by rw [hst2.out], by trivial⟩
        case measure => simp [intOf] <;> omega
      · have d1 : decide ((m : Int) < (f : Int)) = false := decide_eq_false (by omega)
        have d1n : decide (m < f) = false := decide_eq_false hm
        have hst2 : Hid (mostL (l.take (q + 1)) = m) := Lib.hid (by rw [hst.out]; dsimp only; omega)
        clear hm hst
        go_wp2_with fail
        go_roundw
        case rel => exact ⟨q + 1, by go_num, by omega, by rw [hst2.out], by trivial⟩
        case measure => simp [intOf] <;> omega
    · obtain rfl : q = l.length := by omega
      rw [List.take_length]
      go_wp2_with fail
      go_ret
      exact ⟨rfl, hb0⟩
end Go.Proofs.Ytcnebfmlelcliaa
namespace Go.Proofs.Ytcnebfmlelcliaa
open Go.RowKit
def rowT : RT (Nat × Nat) where
  enc := rngCells
  K := 2
  t := 63
  ts := 23
  z := .agg #[.int .u64 0, .int .u64 0]
  bytes := 16
  len := fun _ => rfl
  one := fun x u hu => by simp [rngCells] at hu; rcases hu with rfl | rfl <;> rfl
  pos := by decide
  und := Try.underlying23
  info := by kernel_rfl
  zs := rfl
  bb := by decide
/-- what of a reply counts here: its kind and number, and where its values lie -/
structure Rp where
  kind : Nat
  n : Nat
  va : Option Addr
  vn : Nat
  vc : Nat
def rpCells (y : Rp) : List Value := [.int .i64 y.kind, .string ⟨#[]⟩, .string ⟨#[]⟩, .string ⟨#[]⟩, .int .u64 y.n, .slice none 0 0, .int .u64 0, .slice none 0 0, .string ⟨#[]⟩, .slice y.va y.vn y.vc]
def rpT : RT Rp where
  enc := rpCells
  K := 10
  t := 61
  ts := 53
  z := .agg #[.int .i64 0, .string ⟨#[]⟩, .string ⟨#[]⟩, .string ⟨#[]⟩, .int .u64 0, .slice none 0 0, .int .u64 0, .slice none 0 0, .string ⟨#[]⟩, .slice none 0 0]
  bytes := 160
  len := fun _ => rfl
  one := fun x u hu => by simp [rpCells] at hu; rcases hu with rfl | rfl | rfl | rfl | rfl | rfl | rfl | rfl | rfl | rfl <;> rfl
  pos := by decide
  und := Try.underlying53
  info := by kernel_rfl
  zs := rfl
  bb := by decide
/-- what a reply tells -/
def Rp.say (y : Rp) : Nat × Nat := (y.kind, y.n)
theorem rowT_cells (l : List (Nat × Nat)) : rowT.cells l = rangesCells l := rfl
/-- a letter, as a view has it -/
def ltRow (y : LtV) : Nat × Nat := (y.x.uid, y.x.mod)
/-- where a letter of a Uid stands, from one on; 0: there is none -/
def lettI : List LtV → Nat → Nat
  | [], _ => 0
  | r :: l, uid => if r.x.uid = uid then 1 else match lettI l uid with
    | 0 => 0
    | n + 1 => n + 2
end Go.Proofs.Ytcnebfmlelcliaa
