/- seqset.Has, of the program and of the document: walked. The work of a request, as things in memory; sweep, look, end: walked. -/
import Derived.Test.YtpkaoiadjffjiaaGreatB02
import Derived.Test.YtpkaoiadjffjiaaGreatChecked
import Derived.RangeFuncBox
import Derived.Laws.EntriesVeiled
import Derived.Lib.MinMax
import Derived.BigQuiet
import Derived.Deep.QuietTactic
namespace Go.Proofs.YtpkaoiadjffjiaaGreat
open Go.RowKit

abbrev Rng := Nat × Nat
/-- the ranges lie in v, in a block below B -/
def RangesIn (w : World) (B : Nat) (v : Value) (rs : List Rng) : Prop := ∃ ao cap, v = .slice ao rs.length cap ∧ (rs = [] ∨ ∃ b o, ao = some ⟨b, o, none⟩ ∧ b < B ∧ rs.length ≤ cap ∧ ∀ j, (h : j < rs.length) → w.cell? ⟨b, o + j * 2, none⟩ = some (.int .u64 rs[j].1) ∧ w.cell? ⟨b, o + j * 2 + 1, none⟩ = some (.int .u64 rs[j].2))
theorem RangesIn.later {w w' : World} {B : Nat} {v : Value} {rs : List Rng} (h : RangesIn w B v rs) (hb : Below B w w') : RangesIn w' B v rs := by
  obtain ⟨ao, cap, hv, h | ⟨b, o, ha, hlt, hle, hc⟩⟩ := h
  · exact ⟨ao, cap, hv, .inl h⟩
  · exact ⟨ao, cap, hv, .inr ⟨b, o, ha, hlt, hle, fun j hj => ⟨(hb.cell (p := ⟨b, o + j * 2, none⟩) hlt).trans (hc j hj).1, (hb.cell (p := ⟨b, o + j * 2 + 1, none⟩) hlt).trans (hc j hj).2⟩⟩⟩
theorem RangesIn.mono {w : World} {B B' : Nat} {v : Value} {rs : List Rng} (h : RangesIn w B v rs) (hb : B ≤ B') : RangesIn w B' v rs := by
  obtain ⟨ao, cap, hv, h | ⟨b, o, ha, hlt, hle, hc⟩⟩ := h
  · exact ⟨ao, cap, hv, .inl h⟩
  · exact ⟨ao, cap, hv, .inr ⟨b, o, ha, by omega, hle, hc⟩⟩
theorem RangesIn.on {w w' : World} {v : Value} {rs : List Rng} (h : RangesIn w w.heap.size v rs) (hb : Below w.heap.size w w') : RangesIn w' w'.heap.size v rs := (h.later hb).mono hb.size
def rngCells (r : Rng) : List Value := [.int .u64 r.1, .int .u64 r.2]
def rangesCells (rs : List Rng) : List Value := rs.flatMap rngCells
theorem rangesCells_len : ∀ (rs : List Rng), (rangesCells rs).length = rs.length * 2
  | [] => rfl
  | k :: r => by
    have := rangesCells_len r
    unfold rangesCells at this ⊢
    rw [List.flatMap_cons, List.length_append, this, List.length_cons]
    show 2 + _ = _
    omega
theorem rangesCells_get : ∀ (rs : List Rng) (j : Nat) (hj : j < rs.length) (r : Nat), r < 2 → (rangesCells rs)[j * 2 + r]? = (rngCells rs[j])[r]?
  | k :: l, 0, _, r, hr => by
    unfold rangesCells
    rw [List.flatMap_cons, List.getElem?_append_left (by show _ < 2; omega)]
    simp
  | k :: l, j + 1, hj, r, hr => by
    have := rangesCells_get l j (by simpa using hj) r hr
    unfold rangesCells at this ⊢
    rw [List.flatMap_cons, List.getElem?_append_right (by show 2 ≤ _; omega), List.getElem_cons_succ, ← this]
    congr 1
    show (j + 1) * 2 + r - 2 = _
    omega
theorem Rd.ranges {w : World} {v : Value} {rs : List Rng} (h : Rd w v rs.length (rangesCells rs)) : RangesIn w w.heap.size v rs := by
  obtain ⟨ao, cap, hv, h⟩ := h
  refine ⟨ao, cap, hv, ?_⟩
  rcases h with h | ⟨b, o, ha, hlt, hle, hc⟩
  · exact .inl (List.eq_nil_of_length_eq_zero h)
  · refine .inr ⟨b, o, ha, hlt, hle, fun j hj => ?_⟩
    have g := fun r (hr : r < 2) u (hu : (rngCells rs[j])[r]? = some u) => hc (j * 2 + r) u (by rw [rangesCells_get rs j hj r hr]; exact hu)
    exact ⟨g 0 (by decide) _ rfl, g 1 (by decide) _ rfl⟩
theorem RangesIn.rd {w : World} {v : Value} {rs : List Rng} (h : RangesIn w w.heap.size v rs) : Rd w v rs.length (rangesCells rs) := by
  obtain ⟨ao, cap, hv, h⟩ := h
  refine ⟨ao, cap, hv, ?_⟩
  rcases h with h | ⟨b, o, ha, hlt, hle, hc⟩
  · exact .inl (by rw [h]; rfl)
  · refine .inr ⟨b, o, ha, hlt, hle, fun i u hu => ?_⟩
    have hi : i < rs.length * 2 := by
      have := (List.getElem?_eq_some_iff.1 hu).1
      rwa [rangesCells_len] at this
    obtain ⟨j, r, hr, rfl⟩ : ∃ j r, r < 2 ∧ i = j * 2 + r := ⟨i / 2, i % 2, Nat.mod_lt _ (by decide), by omega⟩
    have hj : j < rs.length := by omega
    rw [rangesCells_get rs j hj r hr] at hu
    obtain ⟨h0, h1⟩ := hc j hj
    match r, hr with
    | 0, _ => rw [← Option.some.inj hu]; exact h0
    | 1, _ => rw [← Option.some.inj hu]; exact h1
def realI (most k : Int) : Int := if k = 0 then most else k
/-- one range of a set: does it hold n -/
def hasOne (most n : Nat) (r : Nat × Nat) : Bool := decide (min (realI most r.1) (realI most r.2) ≤ (n : Int)) && decide ((n : Int) ≤ max (realI most r.1) (realI most r.2))
def hasL (rs : List (Nat × Nat)) (most n : Nat) : Bool := rs.any (hasOne most n)
end Go.Proofs.YtpkaoiadjffjiaaGreat
namespace Go.Proofs.YtpkaoiadjffjiaaGreat
set_option linter.unusedSimpArgs false
open Go.RowKit
attribute [local go_sem ↓] Go.wp_at_zero Go.wp_at_succ

structure Rq where
  op : Int
  session : Nat
  number : Nat
  node : Int
  life : Nat
  try_ : Nat
  box : ByteArray
  to_ : ByteArray
  validity : Nat
  uids : List (Nat × Nat)
  flags : List (List UInt8)
  how : Int
  has : Bool
  since : Nat
  hash : ByteArray
  size : Nat
  sweeps : Nat
structure Oc where
  code : Int
  session : Nat
  validity : Nat
  uids : List Nat
  mods : List Nat
def oc0 : Oc := ⟨0, 0, 0, [], []⟩
def u64T : RT Nat where
  enc := fun n => [.int .u64 n]
  K := 1
  t := 23
  ts := 82
  z := .int .u64 0
  bytes := 8
  len := fun _ => rfl
  one := fun x u hu => by simp at hu; subst hu; rfl
  pos := by decide
  und := Tryz.underlying82
  info := by kernel_rfl
  zs := rfl
  bb := by decide
/-- where a request's slices lie -/
structure RqV where
  au : Option Addr
  cu : Nat
  af : Option Addr
  cf : Nat
def RqIn (W : World) (q : Rq) (y : RqV) : Prop := RangesIn W W.heap.size (.slice y.au q.uids.length y.cu) q.uids ∧ FlIn W (.slice y.af q.flags.length y.cf) q.flags
theorem RqIn.below {W W' : World} {q : Rq} {y : RqV} (h : RqIn W q y) (hb : Below W.heap.size W W') : RqIn W' q y := ⟨h.1.on hb, Rd.below h.2 hb⟩
/-- where the parts of a work lie -/
structure WkV where
  ab : Option Addr
  cb : Nat
  ah : Option Addr
  ch : Nat
  as_ : Option Addr
  cs : Nat
  aU : Option Addr
  cU : Nat
  aM : Option Addr
  cM : Nat
  bs : List BxV
  S : List (Value × List (List UInt8))
def WkOk (k : WkV) (m : Ml) : Prop := k.bs.map BxV.b = m.boxes ∧ HasB k.S k.bs
section
variable {W0 W : World} {L : List Th}
theorem front_perm {α : Type} : ∀ (L : List α) (i : Nat) (hi : i < L.length), L.Perm (L[i] :: L.eraseIdx i)
  | _ :: _, 0, _ => List.Perm.refl _
  | x :: L, i + 1, hi => ((front_perm L i (by simpa using hi)).cons x).trans (List.Perm.swap _ _ _)
theorem Zoo.back {b : Th} (i : Nat) (hi : i < L.length) (h : Zoo W0 W (b :: L.eraseIdx i)) : Zoo W0 W (L.set i b) := by
  refine h.perm ?_
  have := front_perm (L.set i b) i (by rw [List.length_set]; exact hi)
  rw [List.getElem_set_self, List.eraseIdx_set_eq] at this
  exact this.symm
end
def lookM (m : Ml) (_ : Rq) (o : Oc) : Int × Ml × Oc := (0, m, o)
def sweepM (m : Ml) (_ : Rq) (o : Oc) : Int × Ml × Oc := if m.sweeps = 9223372036854775807 then (13, m, o) else (0, { m with sweeps := m.sweeps + 1 }, o)
def endM (m : Ml) (q : Rq) (o : Oc) : Int × Ml × Oc := (0, { m with seats := m.seats.filter (fun x => !(x.session == q.session)) }, o)
end Go.Proofs.YtpkaoiadjffjiaaGreat
