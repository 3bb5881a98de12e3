/- Opening requests: a slice of slices of parts (a text and a literal each). -/
import Derived.Test.YtkocnldkimjonaaDoorOpenS
import Derived.Deep.SlicePairs
namespace Go.Proofs.YtkocnldkimjonaaDoor
open Go.ChangeShapes Go.WideShapes Go.ChangeAt Go.RowKit Go.Deep

def partCells (r : List (ByteArray × ByteArray)) : List Value := r.flatMap fun x => [.string x.1, .string x.2]
/-- v reads as these requests -/
def RdReqs (w : World) (v : Value) (rs : List (List (ByteArray × ByteArray))) : Prop := ∃ vs : List Value, vs.length = rs.length ∧ Rd w v rs.length vs ∧ ∀ (i : Nat) (u : Value) (r : List (ByteArray × ByteArray)), vs[i]? = some u → rs[i]? = some r → Rd w u r.length (partCells r)
/-- nothing in them is longer than B -/
def ReqsLe (B : Nat) (rs : List (List (ByteArray × ByteArray))) : Prop := rs.length ≤ B ∧ ∀ r ∈ rs, r.length ≤ B ∧ ∀ x ∈ r, x.1.size ≤ B ∧ x.2.size ≤ B
theorem bulk_mem {H : Type} : ∀ (l : List (DataW H)) (d : DataW H), d ∈ l → Rows.uptoBulk d ≤ Rows.uptoBulkAll l
  | x :: r, d, h => by
    rw [Rows.uptoBulkAll]
    rcases List.mem_cons.1 h with rfl | h
    · omega
    · have := bulk_mem r d h; omega
theorem bulk_pos {H : Type} (d : DataW H) : 1 ≤ Rows.uptoBulk d := by
  cases d with
  | lit l => cases l <;> simp [Rows.uptoBulk]
  | _ => simp [Rows.uptoBulk]
theorem bulk_len {H : Type} : ∀ (l : List (DataW H)), l.length ≤ Rows.uptoBulkAll l
  | [] => Nat.zero_le _
  | x :: r => by
    have := bulk_len r
    have := bulk_pos x
    rw [Rows.uptoBulkAll, List.length_cons]; omega
theorem add_of_spot {a : Addr} (hs : a.spot = none) (i : Nat) : a.add i = ⟨a.block, a.off + i, none⟩ := by
  cases a with
  | mk x y z => simp at hs; subst hs; exact Addr.add_lit ..
theorem partCells_len : ∀ r : List (ByteArray × ByteArray), (partCells r).length = r.length * 2
  | [] => rfl
  | x :: r => by
    have := partCells_len r
    show (partCells r).length + 1 + 1 = (r.length + 1) * 2
    omega
theorem partCells_at : ∀ (r : List (ByteArray × ByteArray)) (j : Nat) (x : ByteArray × ByteArray), r[j]? = some x → (partCells r)[j * 2]? = some (.string x.1) ∧ (partCells r)[j * 2 + 1]? = some (.string x.2)
  | [], j, x, h => by simp at h
  | y :: r, 0, x, h => by simp at h; subst h; exact ⟨rfl, rfl⟩
  | y :: r, j + 1, x, h => by
    have := partCells_at r j x (by simpa using h)
    rw [show (j + 1) * 2 = j * 2 + 2 by omega]
    exact this
theorem partCells_back (r : List (ByteArray × ByteArray)) (i : Nat) (u : Value) (h : (partCells r)[i]? = some u) : ∃ j x, r[j]? = some x ∧ ((i = j * 2 ∧ u = .string x.1) ∨ (i = j * 2 + 1 ∧ u = .string x.2)) := by
  have hi : i < (partCells r).length := (List.getElem?_eq_some_iff.1 h).1
  rw [partCells_len] at hi
  have hj : i / 2 < r.length := by omega
  obtain ⟨h0, h1⟩ := partCells_at r (i / 2) r[i / 2] (List.getElem?_eq_getElem hj)
  refine ⟨i / 2, r[i / 2], List.getElem?_eq_getElem hj, ?_⟩
  by_cases he : i % 2 = 0
  · left
    have e : i = i / 2 * 2 := by omega
    refine ⟨e, ?_⟩
    rw [← e, h] at h0
    exact Option.some.inj h0
  · right
    have e : i = i / 2 * 2 + 1 := by omega
    refine ⟨e, ?_⟩
    rw [← e, h] at h1
    exact Option.some.inj h1
section
variable {H : Type} {enc : TypeId × Value → H} {P : Program} {w : World} {base : Nat} {spare : Nat → Bool} {held : Bool}
theorem open_parts {t e s : TypeId} {f0 f1 : Field} {fuel : Nat} {u : Value} {x : DataW H × List MemPlace} (ht : P.underlying t = some (.slice e)) (he : P.underlying e = some (.struct #[f0, f1])) (o0 : f0.offset = 0) (o1 : f1.offset = 1) (ce : P.cellsOf e = 2)
    (h0 : f0.type = s) (h1 : f1.type = s) (cs : P.cellsOf s = 1) (hs : P.underlying s = some .string) (h : DataW.trod enc P w base spare held fuel t [u] = some x) :
    ∃ r : List (ByteArray × ByteArray), Rd w u r.length (partCells r) ∧ r.length ≤ Rows.uptoBulk x.1 ∧ ∀ y ∈ r, y.1.size ≤ Rows.uptoBulk x.1 ∧ y.2.size ≤ Rows.uptoBulk x.1 := by
  rcases open_slice_pairs ht he ce o0 o1 (by rw [h0]; exact cs) (by rw [h1]; exact cs) h with ⟨hc, hx⟩ | ⟨a, len, cap, m, n, V0, V1, D0, D1, P0, P1, hc, hb, hl, hm, hmm, rfl, hall⟩
  · have : u = .slice none 0 0 := by simpa using hc
    subst this
    exact ⟨[], ⟨none, 0, rfl, .inl rfl⟩, Nat.zero_le _, by simp⟩
  · have : u = .slice (some a) len cap := by simpa using hc
    subst this
    have hlm : len ≤ m := by rw [hmm]; split <;> omega
    have hstr : ∀ i, i < len → ∃ q : ByteArray × ByteArray, V0 i = .string q.1 ∧ V1 i = .string q.2 ∧ D0 i = .lit (.string q.1.data.toList) ∧ D1 i = .lit (.string q.2.data.toList) := fun i hi => by
      obtain ⟨_, _, g0, g1⟩ := hall i (by omega)
      rw [h0] at g0
      rw [h1] at g1
      obtain ⟨s0, e0, e0', _⟩ := DataW.trod_string hs g0
      obtain ⟨s1, e1, e1', _⟩ := DataW.trod_string hs g1
      simp only [Prod.mk.injEq] at e0' e1'
      exact ⟨(s0, s1), by simpa using e0, by simpa using e1, e0'.1, e1'.1⟩
    obtain ⟨q, hq⟩ := choose_lt (α := ByteArray × ByteArray) hstr
    have hlen : ((List.range len).map q).length = len := by simp
    have hget : ∀ (j : Nat) (y : ByteArray × ByteArray), ((List.range len).map q)[j]? = some y → j < len ∧ y = q j := fun j y hy => by
      have hj : j < len := by
        have := (List.getElem?_eq_some_iff.1 hy).1
        rwa [hlen] at this
      refine ⟨hj, ?_⟩
      simp [hj] at hy
      exact hy.symm
    refine ⟨(List.range len).map q, ⟨some a, cap, by rw [hlen], ?_⟩, ?_, ?_⟩
    · rcases Nat.eq_zero_or_pos len with hz | hz
      · exact .inl (by rw [hlen]; exact hz)
      · right
        obtain ⟨c0, _, _, _⟩ := hall 0 (by omega)
        obtain ⟨hsp, hbl⟩ := cell_spot c0
        have e0 : a.add (0 * 2) = a := rfl
        rw [e0] at hsp hbl
        refine ⟨a.block, a.off, by cases a; simp at hsp; subst hsp; rfl, hbl, fun i v hv => ?_⟩
        obtain ⟨j, y, hy, hcase⟩ := partCells_back _ _ _ hv
        obtain ⟨hj, rfl⟩ := hget j y hy
        obtain ⟨g0, g1, _, _⟩ := hall j (by omega)
        rw [add_of_spot hsp] at g0 g1
        obtain ⟨v0, v1, _, _⟩ := hq j hj
        rcases hcase with ⟨rfl, rfl⟩ | ⟨rfl, rfl⟩
        · rw [g0, v0]
        · rw [← Nat.add_assoc] 
          rw [← Nat.add_assoc] at g1
          rw [g1, v1]
    · rw [hlen]
      simp only [Rows.uptoBulk]
      have := bulk_len ((List.range len).map fun i => (.agg [D0 i, D1 i] : DataW H))
      simp only [List.length_map, List.length_range] at this
      omega
    · intro y hy
      obtain ⟨i, hi, rfl⟩ := List.mem_map.1 hy
      have hi' : i < len := by simpa using hi
      obtain ⟨_, _, d0, d1⟩ := hq i hi'
      have hm' := bulk_mem ((List.range len).map fun i => (.agg [D0 i, D1 i] : DataW H)) (.agg [D0 i, D1 i]) (List.mem_map.2 ⟨i, hi, rfl⟩)
      simp only [Rows.uptoBulk, Rows.uptoBulkAll, d0, d1] at hm' ⊢
      rw [size_len, size_len]
      omega
theorem open_requests {r : Reach} {b : Nat} {t e e2 s : TypeId} {f0 f1 : Field} {v : Value} {d : DataW H} {p : List MemPlace} (ht : P.underlying t = some (.slice e)) (he : P.underlying e = some (.slice e2)) (he2 : P.underlying e2 = some (.struct #[f0, f1])) (o0 : f0.offset = 0) (o1 : f1.offset = 1) (h01 : f0.type = s ∧ f1.type = s) (ce : P.cellsOf e = 1 ∧ P.cellsOf e2 = 2) (cs : P.cellsOf s = 1) (hs : P.underlying s = some .string)
    (hv : Value.okWide P w r b t v) (h : DataW.Trod enc P w base spare held t v d p) : ∃ rs : List (List (ByteArray × ByteArray)), RdReqs w v rs ∧ ∀ B, Rows.uptoBulk d ≤ B → ReqsLe B rs := by
  obtain ⟨a0, len, cap, rfl⟩ := okWide_slice ht hv
  obtain ⟨fuel, hf⟩ := h
  rcases open_slice1 ht ce.1 hf with ⟨hcs, hx⟩ | ⟨a, len', cap', m, n, V, D, Pl, hcs, hb, hl, hm, hmm, hx, hall⟩
  · have : a0 = none ∧ len = 0 ∧ cap = 0 := by simpa [Value.cells] using hcs
    obtain ⟨rfl, rfl, rfl⟩ := this
    exact ⟨[], ⟨[], rfl, ⟨none, 0, rfl, .inl rfl⟩, by simp⟩, fun B _ => ⟨Nat.zero_le _, by simp⟩⟩
  · have : a0 = some a ∧ len = len' ∧ cap = cap' := by simpa [Value.cells] using hcs
    obtain ⟨rfl, rfl, rfl⟩ := this
    have hlm : len ≤ m := by rw [hmm]; split <;> omega
    obtain ⟨q, hq⟩ := choose_lt (α := List (ByteArray × ByteArray)) (n := len) (fun i hi => open_parts he he2 o0 o1 ce.2 h01.1 h01.2 cs hs (hall i (by omega)).2)
    have hlen : ((List.range len).map q).length = len := by simp
    have hgetq : ∀ (j : Nat) (y : List (ByteArray × ByteArray)), ((List.range len).map q)[j]? = some y → j < len ∧ y = q j := fun j y hy => by
      have hj : j < len := by
        have := (List.getElem?_eq_some_iff.1 hy).1
        rwa [hlen] at this
      refine ⟨hj, ?_⟩
      simp [hj] at hy
      exact hy.symm
    have hgetv : ∀ (j : Nat) (y : Value), ((List.range len).map V)[j]? = some y → j < len ∧ y = V j := fun j y hy => by
      have hj : j < len := by
        have := (List.getElem?_eq_some_iff.1 hy).1
        simpa using this
      refine ⟨hj, ?_⟩
      simp [hj] at hy
      exact hy.symm
    simp only [Prod.mk.injEq] at hx
    refine ⟨(List.range len).map q, ⟨(List.range len).map V, by simp, ⟨some a, cap, by rw [hlen], ?_⟩, fun i u r hu hr => ?_⟩, fun B hB => ?_⟩
    · rcases Nat.eq_zero_or_pos len with hz | hz
      · exact .inl (by rw [hlen]; exact hz)
      · right
        obtain ⟨hsp, hbl⟩ := cell_spot (hall 0 (by omega)).1
        have e0 : a.add 0 = a := rfl
        rw [e0] at hsp hbl
        refine ⟨a.block, a.off, by cases a; simp at hsp; subst hsp; rfl, hbl, fun i v hv => ?_⟩
        obtain ⟨hj, rfl⟩ := hgetv i v hv
        have := (hall i (by omega)).1
        rwa [add_of_spot hsp] at this
    · obtain ⟨hj, rfl⟩ := hgetv i u hu
      obtain ⟨_, rfl⟩ := hgetq i r hr
      exact (hq i hj).1
    · rw [hx.1] at hB
      simp only [Rows.uptoBulk] at hB
      have hl2 := bulk_len ((List.range len).map D)
      simp only [List.length_map, List.length_range] at hl2
      refine ⟨by rw [hlen]; omega, fun r hr => ?_⟩
      obtain ⟨i, hi, rfl⟩ := List.mem_map.1 hr
      have hi' : i < len := by simpa using hi
      have hb1 := bulk_mem ((List.range len).map D) (D i) (List.mem_map.2 ⟨i, hi, rfl⟩)
      obtain ⟨_, h2, h3⟩ := hq i hi'
      have h2' : (q i).length ≤ Rows.uptoBulk (D i) := h2
      refine ⟨by omega, fun x hx => ?_⟩
      have h4 : x.1.size ≤ Rows.uptoBulk (D i) ∧ x.2.size ≤ Rows.uptoBulk (D i) := h3 x hx
      omega
end
end Go.Proofs.YtkocnldkimjonaaDoor
