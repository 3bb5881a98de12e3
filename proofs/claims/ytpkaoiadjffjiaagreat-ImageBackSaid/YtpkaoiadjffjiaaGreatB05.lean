/- slices.Delete at mailboxes; named, remove: walked. named, meant: walked. A work's mailboxes turned one by one: plain. Loads and stores of many cells at once. The document's side of flags, walked: Canon, place, less, Has, With. Lists of flags that the call makes: With, Make of both, Same. Make, of the program and of the document; Same. Print; what every right program answers: alive; and the walk of FlagMakes. Has, Right of both, great: walked. great letters; the laws FlagNames and FlagOnce: walked. The law FlagOnce: walked. nothing of its own nothing of its own Change, of the program and of the document. nothing of its own append: walked. expunge: its closure: walked. expunge: walked. copy: what it computes; steps of its walk. flag.Change, and that what it hands back lies in new memory: walked. store: what it computes: plain. nothing of its own nothing of its own nothing of its own settle: walked. nothing of its own create: walked. nothing of its own mail.New, and the document's: walked. nothing of its own open: walked. Apply: what it computes, and its parts. Apply: walked. (written by tools/gen_MmG.py) few, texts: walked. nothing of its own nothing of its own Which states are right: plain. -/
import Derived.Test.YtpkaoiadjffjiaaGreatB03
import Derived.Test.YtpkaoiadjffjiaaGreatB04
import Derived.Shelf.RegionOpenPlain
import Derived.Deep.RegionLaw
import Derived.Test.YtpkaoiadjffjiaaGreatB02
import Derived.Deep.QuietTactic
import Derived.BigQuiet
import Derived.Lib.AppendZeros
import Derived.Laws.EntriesVeiled
import Derived.Deep.DeepCutAuto
import Derived.Laws.ResultCell
import Derived.Lib.MinMax
namespace Go.Proofs.YtpkaoiadjffjiaaGreat
set_option linter.unusedSimpArgs false
open Go.RowKit
attribute [local go_sem ↓] Go.wp_at_zero Go.wp_at_succ

section
variable {α : Type} {R : RT α}
end
theorem WkOk.len {k : WkV} {m : Ml} (h : WkOk k m) : k.bs.length = m.boxes.length := by rw [← h.1, List.length_map]
theorem Zoo.lets {W0 W : World} {a b c d e f g : Th} {l l' : List Th} (h : Zoo W0 W (a :: b :: c :: d :: e :: f :: g :: l)) (hs : l'.Sublist l) : Zoo W0 W (a :: b :: c :: d :: e :: f :: g :: l') :=
  h.sub (((((((hs.cons_cons g).cons_cons f).cons_cons e).cons_cons d).cons_cons c).cons_cons b).cons_cons a)
def removeM (m : Ml) (q : Rq) (o : Oc) : Int × Ml × Oc :=
  if q.box.toList == inboxL then (1, m, o) else match m.boxes.findIdx? (fun x => x.name.toList == q.box.toList) with
  | none => (6, m, o)
  | some i => (0, { m with boxes := m.boxes.take i ++ m.boxes.drop (i + 1) }, o)
end Go.Proofs.YtpkaoiadjffjiaaGreat
namespace Go.Proofs.YtpkaoiadjffjiaaGreat
set_option linter.unusedSimpArgs false
open Go.RowKit
attribute [local go_sem ↓] Go.wp_at_zero Go.wp_at_succ

/-- where the named mailbox stands, if it is still that one -/
def namedI (m : Ml) (q : Rq) : Option Nat := match m.boxes.findIdx? (fun x => x.name.toList == q.box.toList) with
  | none => none
  | some i => if (m.boxes[i]?).map Bx.validity = some q.validity then some i else none
theorem WkOk.get {k : WkV} {m : Ml} (h : WkOk k m) {i : Nat} (hi : i < k.bs.length) : m.boxes[i]? = some (k.bs[i].b) := by
  rw [← h.1, List.getElem?_map, List.getElem?_eq_getElem hi]; rfl
/-- the greatest number of a mailbox: the last one's -/
def mostB (l : List Lt) : Nat := match l.getLast? with
  | none => 0
  | some x => x.uid
/-- is a letter meant by a request? -/
def meantB (l : List Lt) (q : Rq) (x : Lt) : Bool := hasL q.uids (mostB l) x.uid
end Go.Proofs.YtpkaoiadjffjiaaGreat
namespace Go.Proofs.YtpkaoiadjffjiaaGreat
set_option linter.unusedSimpArgs false
open Go.RowKit

def setB (k : WkV) (i : Nat) (x : BxV) : WkV := { k with bs := k.bs.set i x }
def setM (m : Ml) (i : Nat) (b : Bx) : Ml := { m with boxes := m.boxes.set i b }
def addS (k : WkV) (p : Value × List (List UInt8)) : WkV := { k with S := p :: k.S }
section
variable {W0 W : World} {wb : Nat} {k : WkV} {m : Ml} {q : Rq} {y : RqV} {o : Oc} {E : List Th}
theorem WkOk.set {i : Nat} (h : WkOk k m) (x : BxV) (hx : HasL k.S x.rows) : WkOk (setB k i x) (setM m i x.b) := by
  refine ⟨?_, fun z hz => ?_⟩
  · show (k.bs.set i x).map BxV.b = m.boxes.set i x.b
    rw [List.map_set, h.1]
  · rcases List.mem_or_eq_of_mem_set hz with hz | rfl
    · exact h.2 z hz
    · exact hx
theorem WkOk.add {p : Value × List (List UInt8)} (h : WkOk k m) : WkOk (addS k p) m := ⟨h.1, fun z hz w hw => List.mem_cons_of_mem _ (h.2 z hz w hw)⟩
end
end Go.Proofs.YtpkaoiadjffjiaaGreat
namespace Go.Proofs.YtpkaoiadjffjiaaGreat
set_option linter.unusedSimpArgs false
open Go.RowKit

section
variable {P : Program} {ops : Array Oper} {S : World → Prop}
theorem exec_load_cells {o : Oper} {ρ : Operand → Value} (t : TypeId) (x : Operand) (ho : o.op = .load t x) (b off : Nat) (cs : List Value) (hx : ρ x = .pointer (some ⟨b, off, none⟩)) (hagg : ∀ w, (isAgg t).run P w = .ok true w) (hsz : ∀ w, (Go.sizeOf t).run P w = .ok cs.length w) (W : World) (h : ∀ j v, cs[j]? = some v → W.cell? ⟨b, off + j, none⟩ = some v) : (execOp ρ o).run P W = .ok (.value (.agg cs.toArray)) W := by
  have := run_loadCells_list (P := P) W ⟨b, off, none⟩ cs (fun j v hj => by rw [Addr.add_lit]; exact h j v hj)
  simp [execOp, ho, Instr.loadAt, Instr.sureAddr, hx, loadVar, hagg, hsz, this]
theorem yields_load_cells {o : Oper} {a : Act} (t : TypeId) (x : Operand) (ho : o.op = .load t x) (b off : Nat) (cs : List Value) (hx : a.eval x = .pointer (some ⟨b, off, none⟩)) (hagg : ∀ w, (isAgg t).run P w = .ok true w) (hsz : ∀ w, (Go.sizeOf t).run P w = .ok cs.length w) (hgd : o.guard = none) (h : ∀ W, S W → ∀ j v, cs[j]? = some v → W.cell? ⟨b, off + j, none⟩ = some v) : YieldsIf P ops S o (.agg cs.toArray) a :=
  .inl ⟨by simp [Region.wanted, hgd], fun w hw => exec_load_cells t x ho b off cs hx hagg hsz w (h w hw)⟩
theorem wpList_load_cells {o : Oper} {rest : List Oper} {a : Act} {w : World} {Q : Exit → Act → World → Prop} (hgd : o.guard = none) (t : TypeId) (x : Operand) (ho : o.op = .load t x) (b off : Nat) (cs : List Value) (hx : a.eval x = .pointer (some ⟨b, off, none⟩)) (hagg : ∀ w, (isAgg t).run P w = .ok true w) (hsz : ∀ w, (Go.sizeOf t).run P w = .ok cs.length w) (h : ∀ j v, cs[j]? = some v → w.cell? ⟨b, off + j, none⟩ = some v)
    (hK : wpList P ops Q rest (a.put o.dst (.agg cs.toArray)) w) : wpList P ops Q (o :: rest) a w :=
  wpList_plain hgd fun K hK' => by
    have h1 := exec_load_cells (P := P) (ρ := a.eval) t x ho b off cs hx hagg hsz w h
    unfold Oper.wp
    simp only [h1, Result.andThen]
    exact hK' _ _ hK
theorem exec_store_cells {o : Oper} {ρ : Operand → Value} (t : TypeId) (x u : Operand) (ho : o.op = .store t x u) (b off : Nat) (cs : List Value) (hx : ρ x = .pointer (some ⟨b, off, none⟩)) (hu : ρ u = .agg cs.toArray) (hsz : ∀ w, (Go.sizeOf t).run P w = .ok cs.length w) (h1 : ∀ v ∈ cs, v.oneCell' = true) (W : World) (hc : ∀ j, j < cs.length → (W.cell? ⟨b, off + j, none⟩).isSome = true) (hf : ∀ j, W.frozen? ⟨b, j, none⟩ = false) : ∃ n, (execOp ρ o).run P W = .ok n (W.setCells b off cs) ∧ n = .skip := by
  have := run_storeCells_cells (P := P) b off cs 0 W (by simpa using hc) (fun j _ => hf _) h1
  simp only [Nat.add_zero] at this
  refine ⟨_, ?_, rfl⟩
  simp [execOp, ho, Instr.storeAt, Instr.sureAddr, hx, hu, storeVar, hsz, Value.cells, this]
theorem wpList_store_cells {o : Oper} {rest : List Oper} {a : Act} {w : World} {Q : Exit → Act → World → Prop} (hgd : o.guard = none) (t : TypeId) (x u : Operand) (ho : o.op = .store t x u) (b off : Nat) (cs : List Value) (hx : a.eval x = .pointer (some ⟨b, off, none⟩)) (hu : a.eval u = .agg cs.toArray) (hsz : ∀ w, (Go.sizeOf t).run P w = .ok cs.length w) (h1 : ∀ v ∈ cs, v.oneCell' = true) (hc : ∀ j, j < cs.length → (w.cell? ⟨b, off + j, none⟩).isSome = true) (hf : ∀ j, w.frozen? ⟨b, j, none⟩ = false)
    (hK : wpList P ops Q rest (a.put o.dst undef) (w.setCells b off cs)) : wpList P ops Q (o :: rest) a w :=
  wpList_plain hgd fun K hK' => by
    obtain ⟨n, h2, rfl⟩ := exec_store_cells (P := P) (ρ := a.eval) t x u ho b off cs hx hu hsz h1 w hc hf
    unfold Oper.wp
    simp only [h2, Result.andThen]
    exact hK' _ _ hK
end
/-- all cells of a block are written -/
theorem Zoo.fillBox {W0 W : World} {L : List Th} {B : Nat} {C : List Value} {t : TypeId} (h : Zoo W0 W L) (i : Nat) (hi : L[i]? = some (boxT B C.toArray t)) (cs : List Value) (hl : cs.length = C.length) : Zoo W0 (W.setCells B 0 cs) (L.set i (boxT B cs.toArray t)) := by
  obtain ⟨F, ⟨h1, hF⟩, hlow, hact⟩ := h.act i _ hi
  have h2 := heap_setCells cs 0 C W h1 (by omega)
  rw [List.take_zero, List.nil_append, Nat.zero_add, hl, List.drop_length, List.append_nil] at h2
  have hk : KeptB W B (W.setCells B 0 cs) := KeptB.sets _ _ (KeptB.refl W B)
  exact hact _ F _ ⟨h2, hF⟩ ⟨hk.os, hk.tape, hk.output, Nat.le_of_eq hk.size.symm, fun k hk1 hn => hk.block k (fun e => hn ((hF k).2 e)), fun k hk1 => .inl hk1⟩
theorem Zoo.boxSome {W0 W : World} {L : List Th} {B : Nat} {C : List Value} {t : TypeId} (h : Zoo W0 W L) (i : Nat) (hi : L[i]? = some (boxT B C.toArray t)) : (∀ j, j < C.length → (W.cell? ⟨B, 0 + j, none⟩).isSome = true) ∧ ∀ j, W.frozen? ⟨B, j, none⟩ = false := by
  obtain ⟨h1, -⟩ := h.box i hi
  refine ⟨fun j hj => ?_, box_free h1⟩
  rw [Nat.zero_add, box_cell h1 j, List.getElem?_toArray, List.getElem?_eq_getElem hj]; rfl
end Go.Proofs.YtpkaoiadjffjiaaGreat
namespace Go.Proofs.YtpkaoiadjffjiaaGreat
open Go.RowKit

theorem bytesLess_eq : ∀ a b : List UInt8, Op.bytesLess a b = bytesBefore a b
  | [], [] => rfl
  | _ :: _, [] => rfl
  | [], _ :: _ => rfl
  | a :: x, b :: y => by rw [Op.bytesLess, bytesBefore, bytesLess_eq x y]
end Go.Proofs.YtpkaoiadjffjiaaGreat
namespace Go.Proofs.YtpkaoiadjffjiaaGreat
open Go.RowKit

def OwnT (w : World) (B : Nat) (v : Value) (l : List (List UInt8)) : Prop := w.ownsRow B 9 1 v l.length (l.map encStr)
theorem OwnT.nil (w : World) (B : Nat) : OwnT w B (.slice none 0 0) [] := World.ownsRow_nil _ _ _ _
theorem OwnT.rd {w : World} {B : Nat} {v : Value} {l : List (List UInt8)} (h : OwnT w B v l) : Rd w v l.length (l.map encStr) := Rd.of_own h
theorem OwnT.below {w w' : World} {B : Nat} {v : Value} {l : List (List UInt8)} (h : OwnT w B v l) (hb : Below w.heap.size w w') : OwnT w' B v l :=
  World.ownsRow.kept (row := none) h ⟨hb.os, hb.tape, hb.output, hb.size, fun k hk _ => hb.block k hk⟩ (by cases hv : v.ownBlock <;> simp)
theorem OwnT.lt {w : World} {B : Nat} {v : Value} {l : List (List UInt8)} (h : OwnT w B v l) : ∀ k, v.ownBlock = some k → B ≤ k ∧ k < w.heap.size := World.ownsRow.lt h
/-- between the rounds of With: what is written, is f there already? -/
def WithInv (f : List UInt8) (l : List (List UInt8)) (k : Nat) (done : Bool) (out : List (List UInt8)) : Prop :=
  if done then insS flt f l = out ++ l.drop k else out = l.take k ∧ insS flt f l = out ++ insS flt f (l.drop k)
theorem WithInv.len {f : List UInt8} {l : List (List UInt8)} {k : Nat} {d : Bool} {out : List (List UInt8)} (h : WithInv f l k d out) : out.length ≤ l.length + 1 := by
  have hl := insS_len flt f l
  cases d
  · rw [h.1, List.length_take]; omega
  · have h' : insS flt f l = out ++ l.drop k := h
    rw [h', List.length_append] at hl; omega
theorem drop_get {l : List (List UInt8)} {k : Nat} (h : k < l.length) : l.drop k = l[k] :: l.drop (k + 1) := List.drop_eq_getElem_cons h
theorem WithInv.on {f : List UInt8} {l : List (List UInt8)} {k : Nat} {out : List (List UInt8)} (h : WithInv f l k true out) (hk : k < l.length) : WithInv f l (k + 1) true (out ++ [l[k]]) := by
  have h' : insS flt f l = out ++ l.drop k := h
  show insS flt f l = _
  rw [h', drop_get hk]; simp
theorem WithInv.skip {f : List UInt8} {l : List (List UInt8)} {k : Nat} {out : List (List UInt8)} (h : WithInv f l k false out) (hk : k < l.length) (hn : flt f l[k] = false) : WithInv f l (k + 1) false (out ++ [l[k]]) := by
  have h2 := h.2
  rw [drop_get hk, insS, if_neg (by rw [hn]; simp)] at h2
  exact ⟨by rw [h.1, List.take_succ_eq_append_getElem hk], by rw [h2]; simp⟩
theorem WithInv.put {f : List UInt8} {l : List (List UInt8)} {k : Nat} {out : List (List UInt8)} (h : WithInv f l k false out) (hk : k < l.length) (hn : flt f l[k] = true) : WithInv f l (k + 1) true (out ++ [f] ++ [l[k]]) := by
  have h2 := h.2
  rw [drop_get hk, insS, if_pos hn] at h2
  show insS flt f l = _
  rw [h2]; simp
theorem rd_cell {w : World} {b o k : Nat} {l : List (List UInt8)} (hc : ∀ i u, (l.map encStr)[i]? = some u → w.cell? ⟨b, o + i, none⟩ = some u) (hk : k < l.length) : w.cell? ⟨b, o + k, none⟩ = some (.string (mkB l[k])) := hc k _ (by rw [List.getElem?_map, List.getElem?_eq_getElem hk]; rfl)
end Go.Proofs.YtpkaoiadjffjiaaGreat
namespace Go.Proofs.YtpkaoiadjffjiaaGreat
open Go.RowKit

/-- texts of a size that may be -/
def Sized (l : List (List UInt8)) : Prop := ∀ x ∈ l, (mkB x).size ≤ maxLen
end Go.Proofs.YtpkaoiadjffjiaaGreat
namespace Go.Proofs.YtpkaoiadjffjiaaGreat
open Go.RowKit

theorem small_size (l : List UInt8) (h : l.length ≤ 100) : (mkB l).size ≤ maxLen := by
  show l.length ≤ _
  unfold maxLen; omega
end Go.Proofs.YtpkaoiadjffjiaaGreat
namespace Go.Proofs.YtpkaoiadjffjiaaGreat
open Go.RowKit

/-- is a list a set of flags? -/
def rightB (l : List (List UInt8)) : Bool := (l.all fun f => decide (canonL f = some f)) && (decide (l.length ≤ 16) && decide (l = fset l))
theorem rightB_iff (l : List (List UInt8)) : rightB l = true ↔ (∀ f ∈ l, canonL f = some f) ∧ l.length ≤ 16 ∧ SSorted flt l := by
  rw [rightB]
  simp only [Bool.and_eq_true, List.all_eq_true, decide_eq_true_eq]
  constructor
  · rintro ⟨h1, h2, h3⟩; exact ⟨h1, h2, by rw [h3]; exact sorted_setS flt_sto l⟩
  · rintro ⟨h1, h2, h3⟩; exact ⟨h1, h2, (setS_of_sorted flt_sto l h3).symm⟩
theorem rightB_not {l : List (List UInt8)} {f : List UInt8} (hf : f ∈ l) (hn : canonL f ≠ some f) : rightB l = false := by
  cases h : rightB l
  · rfl
  · exact absurd (((rightB_iff l).1 h).1 f hf) hn
/-- slices.Equal of two lists of texts -/
theorem equal_any (v1 v2 : Value) (l m : List (List UInt8)) (w : World) (h1 : Rd w v1 l.length (l.map encStr)) (h2 : Rd w v2 m.length (m.map encStr)) (hl : l.length * 16 ≤ 140737488355328) (hm : m.length * 16 ≤ 140737488355328) :
    Calls Tryz.prog 37 #[v1, v2] w fun e w' => e = .returned (.bool (decide (l = m))) ∧ Hid (Below w.heap.size w w') := by
  obtain ⟨a1, c1, rfl, h1⟩ := h1
  obtain ⟨a2, c2, rfl, h2⟩ := h2
  by_cases hlen : l.length = m.length
  · rcases h1 with h1 | ⟨b1, o1, rfl, hb1, hle1, hc1⟩
    · obtain rfl := List.eq_nil_of_length_eq_zero h1
      have hm0 : m = [] := List.eq_nil_of_length_eq_zero (by rw [← hlen]; rfl)
      subst hm0
      exact (Tryz.slices_Equal_string_empty a1 a2 c1 0 c2 w (by omega)).mono fun _ _ ⟨he, hw⟩ => ⟨he, Lib.hid (by rw [hw]; exact Below.refl _ _)⟩
    · rcases h2 with h2 | ⟨b2, o2, rfl, hb2, hle2, hc2⟩
      · have hm0 : m = [] := List.eq_nil_of_length_eq_zero h2
        subst hm0
        have hl0 : l = [] := List.eq_nil_of_length_eq_zero (by rw [hlen]; rfl)
        subst hl0
        exact (Tryz.slices_Equal_string_empty _ a2 c1 0 c2 w (by omega)).mono fun _ _ ⟨he, hw⟩ => ⟨he, Lib.hid (by rw [hw]; exact Below.refl _ _)⟩
      · have cell : ∀ (l : List (List UInt8)) (b o : Nat), (∀ i u, (l.map encStr)[i]? = some u → w.cell? ⟨b, o + i, none⟩ = some u) → ∀ j, j < (l.map mkB).length → w.cell? ⟨b, o + j, none⟩ = some (.string ((l.map mkB).getD j ByteArray.empty)) := fun l b o hc j hj => by
          have hj' : j < l.length := by simpa using hj
          rw [rd_cell hc hj']
          simp [List.getD, hj']
        have h := Tryz.slices_Equal_string b1 o1 l.length c1 b2 o2 m.length c2 (l.map mkB) (m.map mkB) w (by simp) (by simp) (by omega) (by omega) (cell l b1 o1 hc1) (cell m b2 o2 hc2)
        have e : decide ((l.map mkB).take l.length = (m.map mkB).take m.length) = decide (l = m) := by
          rw [List.take_of_length_le (by simp), List.take_of_length_le (by simp), decide_eq_decide]
          constructor
          · intro h
            have h' := congrArg (List.map fun s : ByteArray => s.data.toList) h
            rw [List.map_map, List.map_map] at h'
            have id1 : ∀ l : List (List UInt8), l.map ((fun s : ByteArray => s.data.toList) ∘ mkB) = l := fun l => List.map_id' l
            rwa [id1, id1] at h'
          · rintro rfl; rfl
        rw [e] at h
        exact h.mono fun _ _ ⟨he, q, hw⟩ => ⟨he, Lib.hid (by rw [hw]; exact below_drewN (Below.refl _ _) _)⟩
  · exact (Tryz.slices_Equal_string_lens a1 a2 l.length c1 m.length c2 w hlen).mono fun _ _ ⟨he, hw⟩ => ⟨by rw [he, decide_eq_false (fun e => hlen (by rw [e]))], Lib.hid (by rw [hw]; exact Below.refl _ _)⟩
set_option maxRecDepth 100000 in
set_option maxHeartbeats 2000000 in
theorem right_any (v : Value) (l : List (List UInt8)) (w : World) (hr : Rd w v l.length (l.map encStr)) (hl : (l.length + 2) * 16 ≤ 140737488355328) (hs : Sized l) :
    Calls Tryz.prog 69 #[v] w fun e w' => e = .returned (.bool (rightB l)) ∧ Hid (Below w.heap.size w w') := by
  have hr0 := Lib.hid hr
  replace hs := Lib.hid hs
  obtain ⟨ao, cap, rfl, -⟩ := hr
  go_enter Tryz.func69, Tryz.ntmps69
  go_wp2_with fail
  go_loopw [9] (fun vk wr => ∃ (k : Nat), vk = .int .i64 k ∧ k ≤ l.length ∧ Hid (∀ f ∈ l.take k, canonL f = some f) ∧ Hid (Below w.heap.size w wr)) (fun vk _ => l.length - (intOf vk).toNat)
  case atStart => exact ⟨0, rfl, Nat.zero_le _, Lib.hid (by simp), Lib.hid (Below.refl _ _)⟩
  case round =>
    obtain ⟨k, rfl, hk, hfix, hb⟩ := hrel
    by_cases hlt : k < l.length
    · obtain ⟨b, o, hao, hbl, hcell⟩ := hr0.out.at_pos (by omega)
      subst hao
      have hcw : wr.cell? ⟨b, o + k, none⟩ = some (.string (mkB l[k])) := (hb.out.cell (p := ⟨b, o + k, none⟩) hbl).trans (rd_cell hcell hlt)
      have hcan := Lib.hid (canon_any (mkB l[k]) (hs.out _ (List.getElem_mem hlt)) wr)
      rw [mkB_list] at hcan
      have hX : Hid ((mkB l[k]).data.toList = l[k]) := Lib.hid rfl
      generalize mkB l[k] = X at hcw hcan hX
      clear hcell
      go_wp2_with fail
      refine hcan.out.mono ?_
      rintro e w2 ⟨u, ok, rfl, hu, hb2⟩
      have hb3 := Lib.hid (hb.out.trans (hb2.out.mono hb.out.size))
      clear hcan hb2
      cases ok
      · have hno : Hid (rightB l = false) := Lib.hid (rightB_not (List.getElem_mem hlt) (by rw [hu.out.1]; simp))
        clear hu
        go_wp2_with fail
        go_ret
        exact ⟨by rw [hno.out]; rfl, hb3⟩
      · have hq : (u.toList == X.toList) = (u.data.toList == l[k]) := by rw [eq_str, hX.out]
        have hu1 : Hid (canonL l[k] = some u.data.toList) := Lib.hid hu.out.1
        clear hu
        cases h : (u.data.toList == l[k])
        · have hno : Hid (rightB l = false) := Lib.hid (rightB_not (List.getElem_mem hlt) (by
            rw [hu1.out]; intro e; rw [Option.some.inj e] at h; simp at h))
          rw [h] at hq
          replace h := Lib.hid h
          go_wp2_with fail
          go_ret
          exact ⟨by rw [hno.out]; rfl, hb3⟩
        · have hn : Hid (∀ f ∈ l.take (k + 1), canonL f = some f) := Lib.hid (by
            intro f hf
            rw [List.take_succ_eq_append_getElem hlt, List.mem_append] at hf
            rcases hf with hf | hf
            · exact hfix.out f hf
            · have : f = l[k] := by simpa using hf
              rw [this, hu1.out, eq_of_beq h])
          rw [h] at hq
          replace h := Lib.hid h
          go_wp2_with fail
          go_roundw
          case rel => exact ⟨k + 1, by go_num, by omega, hn, hb3⟩
          case measure => simp [intOf]; omega
    · have hall : Hid ((l.all fun f => decide (canonL f = some f)) = true) := Lib.hid (by
        have h := hfix.out
        rw [List.take_of_length_le (by omega)] at h
        rw [List.all_eq_true]
        intro f hf
        exact decide_eq_true (h f hf))
      by_cases h16 : l.length ≤ 16
      · have hR : Hid (rightB l = decide (l = fset l)) := Lib.hid (by rw [rightB, hall.out, decide_eq_true h16]; rfl)
        have hrw := Lib.hid (hr0.out.below hb.out)
        go_wp2_with fail
        refine (set_any _ l wr hrw.out (by omega)).mono ?_
        rintro e w2 ⟨v2, rfl, ho2, hb2⟩
        have hb3 := Lib.hid (hb.out.trans (hb2.out.mono hb.out.size))
        have hfl : (fset l).length ≤ l.length := setS_len flt l
        have heq := Lib.hid (equal_any _ v2 l (fset l) w2 (hrw.out.below hb2.out) ho2.out.rd (by omega) (by omega))
        rw [← hR.out] at heq
        clear hb2
        go_wp2_with fail
        refine heq.out.mono ?_
        rintro e w3 ⟨rfl, hb4⟩
        have hb5 := Lib.hid (hb3.out.trans (hb4.out.mono hb3.out.size))
        obtain ⟨B, hB⟩ : ∃ B, Hid (rightB l = B) := ⟨_, Lib.hid rfl⟩
        rw [hB.out]
        go_wp2_with fail
        go_ret
        exact ⟨by rw [hB.out]; rfl, hb5⟩
      · have hR : Hid (rightB l = false) := Lib.hid (by rw [rightB, decide_eq_false h16]; simp)
        go_wp2_with fail
        go_ret
        exact ⟨by rw [hR.out]; rfl, hb⟩
theorem ssorted_snoc {l : List (List UInt8)} {k : Nat} (hk : k + 1 < l.length) (h : SSorted flt (l.take (k + 1))) (hlt : flt l[k] l[k + 1] = true) : SSorted flt (l.take (k + 2)) := by
  rw [List.take_succ_eq_append_getElem hk]
  refine List.pairwise_append.2 ⟨h, List.pairwise_singleton _ _, fun a ha b hb => ?_⟩
  have hb' : b = l[k + 1] := by simpa using hb
  subst hb'
  rw [List.take_succ_eq_append_getElem (show k < l.length by omega)] at h ha
  rcases List.mem_append.1 ha with ha | ha
  · exact flt_sto.trans _ _ _ ((List.pairwise_append.1 h).2.2 a ha l[k] (by simp)) hlt
  · have : a = l[k] := by simpa using ha
    rw [this]; exact hlt
theorem not_ssorted {l : List (List UInt8)} {k : Nat} (hk : k + 1 < l.length) (hlt : flt l[k] l[k + 1] = false) : ¬ SSorted flt l := fun h => by
  have := List.pairwise_iff_getElem.1 h k (k + 1) (by omega) hk (by omega)
  rw [hlt] at this; cases this
end Go.Proofs.YtpkaoiadjffjiaaGreat
namespace Go.Proofs.YtpkaoiadjffjiaaGreat
open Go.RowKit

/- what is kept of what is kept -/
theorem byte_all (p : UInt8 → Bool) (h : ∀ n, n < 256 → p (UInt8.ofNat n) = true) (b : UInt8) : p b = true := by
  have := h b.toNat b.toNat_lt
  rwa [UInt8.ofNat_toNat] at this
theorem up_low (b : UInt8) : upB (lowB b) = upB b := by simpa using byte_all (fun b => upB (lowB b) == upB b) (by decide +kernel) b
theorem up_up (b : UInt8) : upB (upB b) = upB b := by simpa using byte_all (fun b => upB (upB b) == upB b) (by decide +kernel) b
theorem low_low (b : UInt8) : lowB (lowB b) = lowB b := by simpa using byte_all (fun b => lowB (lowB b) == lowB b) (by decide +kernel) b
theorem low_up (b : UInt8) : lowB (upB b) = lowB b := by simpa using byte_all (fun b => lowB (upB b) == lowB b) (by decide +kernel) b
theorem atom_low (b : UInt8) : atomB (lowB b).toNat = atomB b.toNat := by simpa using byte_all (fun b => atomB (lowB b).toNat == atomB b.toNat) (by decide +kernel) b
theorem atom_up (b : UInt8) : atomB (upB b).toNat = atomB b.toNat := by simpa using byte_all (fun b => atomB (upB b).toNat == atomB b.toNat) (by decide +kernel) b
theorem upL_low (l : List UInt8) : upL (lowL l) = upL l := by simp [upL, lowL, up_low]
theorem upL_up (l : List UInt8) : upL (upL l) = upL l := by simp [upL, up_up]
theorem lowL_low (l : List UInt8) : lowL (lowL l) = lowL l := by simp [lowL, low_low]
theorem lowL_up (l : List UInt8) : lowL (upL l) = lowL l := by simp [upL, lowL, low_up]
theorem keyB_map (g : UInt8 → UInt8) (hg : ∀ b, atomB (g b).toNat = atomB b.toNat) (l : List UInt8) : keyB (l.map g) = keyB l := by
  have h1 : allB atomB (l.map g) = allB atomB l := by
    induction l with
    | nil => rfl
    | cons x r ih =>
      have e : ∀ (y : UInt8) (m : List UInt8), allB atomB (y :: m) = (atomB y.toNat && allB atomB m) := fun _ _ => rfl
      rw [List.map_cons, e, e, ih, hg]
  have h2 : (l.map g).isEmpty = l.isEmpty := by cases l <;> rfl
  rw [keyB, keyB, allS, allS, h1, h2, List.length_map]
theorem sys_find {s f : List UInt8} (h : sysL.find? (fun f => upL f == upL s) = some f) : f ∈ sysL := List.mem_of_find?_eq_some h
theorem sys_canon : ∀ f ∈ sysL, canonL f = some f ∧ canonL (upL f) = some f ∧ f.length ≤ 32 := by decide +kernel
theorem canonL_up {s c : List UInt8} (h : canonL s = some c) : canonL c = some c ∧ canonL (upL c) = some c ∧ c.length ≤ 32 := by
  unfold canonL at h
  cases hf : sysL.find? (fun f => upL f == upL s) with
  | some f =>
    rw [hf] at h
    have : f = c := Option.some.inj h
    subst this
    exact sys_canon f (sys_find hf)
  | none =>
    rw [hf] at h
    by_cases hk : keyB s = true
    · simp only [hk, if_true] at h
      have hc : lowL s = c := Option.some.inj h
      subst hc
      have hk1 : keyB (lowL s) = true := (keyB_map lowB atom_low s).trans hk
      have hk2 : keyB (upL (lowL s)) = true := (keyB_map upB atom_up _).trans hk1
      refine ⟨?_, ?_, ?_⟩
      · unfold canonL; rw [upL_low, hf]; simp only [hk1, if_true, lowL_low]
      · unfold canonL; rw [upL_up, upL_low, hf]; rw [upL_low] at hk2; simp only [hk2, if_true, lowL_up]
      · have h3 := hk1
        rw [keyB, Bool.and_eq_true] at h3
        exact of_decide_eq_true h3.2
    · simp only [hk] at h; cases h
theorem right_short {m : List (List UInt8)} (h : rightB m = true) : ∀ c ∈ m, c.length ≤ 32 := fun c hc => (canonL_up (((rightB_iff m).1 h).1 c hc)).2.2

end Go.Proofs.YtpkaoiadjffjiaaGreat
namespace Go.Proofs.YtpkaoiadjffjiaaGreat
open Go.RowKit

theorem short_of {l : List (List UInt8)} (h : ∀ c ∈ l, c.length ≤ 32) : Sized l := fun x hx => small_size x (by have := h x hx; omega)
end Go.Proofs.YtpkaoiadjffjiaaGreat


namespace Go.Proofs.YtpkaoiadjffjiaaGreat
open Go.RowKit

/-- what is put together ahead of the set -/
def chIn (l : List (List UInt8)) (how : Int) (by_ : List (List UInt8)) : List (List UInt8) := (if how = 0 then [] else if how = 1 then l else l.filter fun x => !decide (x ∈ by_)) ++ (if how = 2 then [] else by_)
def chOk (l : List (List UInt8)) (how : Int) (by_ : List (List UInt8)) : Bool := rightB l && (rightB by_ && (decide (0 ≤ how) && decide (how < 3)))
def chCode (l : List (List UInt8)) (how : Int) (by_ : List (List UInt8)) : Nat := if chOk l how by_ then (if 16 < (fset (chIn l how by_)).length then 7 else 0) else 1
def chSet (l : List (List UInt8)) (how : Int) (by_ : List (List UInt8)) : List (List UInt8) := if chOk l how by_ then (if 16 < (fset (chIn l how by_)).length then [] else fset (chIn l how by_)) else []
theorem right_16 {l : List (List UInt8)} (h : rightB l = true) : l.length ≤ 16 := ((rightB_iff l).1 h).2.1
theorem ch_okk {l by_ : List (List UInt8)} {how : Int} (h1 : rightB l = true) (h2 : rightB by_ = true) (h3 : 0 ≤ how) (h4 : how < 3) : chOk l how by_ = true := by
  rw [chOk, h1, h2, decide_eq_true h3, decide_eq_true h4]; rfl
end Go.Proofs.YtpkaoiadjffjiaaGreat

namespace Go.Proofs.YtpkaoiadjffjiaaGreat
set_option linter.unusedSimpArgs false
open Go.RowKit
attribute [local go_sem ↓] Go.wp_at_zero Go.wp_at_succ

def newLt (b : Bx) (q : Rq) : Lt := ⟨b.next, q.flags, b.high + 1, q.hash, q.size⟩
def appended (b : Bx) (q : Rq) : Bx := { b with next := b.next + 1, high := b.high + 1, letters := b.letters ++ [newLt b q] }
def appendM (m : Ml) (q : Rq) (o : Oc) : Int × Ml × Oc :=
  match m.boxes.findIdx? (fun x => x.name.toList == q.box.toList) with
  | none => (6, m, o)
  | some i => match m.boxes[i]? with
    | none => (6, m, o)
    | some b =>
      if rightB q.flags = false ∨ q.hash.size ≠ 32 ∨ 4096 < q.size then (1, m, o)
      else if q.sweeps ≠ m.sweeps then (15, m, o)
      else if 32 ≤ b.letters.length then (7, m, o)
      else if 4294967295 < b.next ∨ 9223372036854775807 ≤ b.high then (13, m, o)
      else (0, setM m i (appended b q), { o with validity := b.validity, uids := [b.next] })
end Go.Proofs.YtpkaoiadjffjiaaGreat
namespace Go.Proofs.YtpkaoiadjffjiaaGreat
set_option linter.unusedSimpArgs false
open Go.RowKit
attribute [local go_sem ↓] Go.wp_at_zero Go.wp_at_succ

def delL : List UInt8 := [92, 68, 101, 108, 101, 116, 101, 100]
/-- does a letter go? -/
def goesB (l : List Lt) (q : Rq) (x : Lt) : Bool := decide (delL ∈ x.flags) && (decide (q.uids.length = 0) || meantB l q x)
end Go.Proofs.YtpkaoiadjffjiaaGreat
namespace Go.Proofs.YtpkaoiadjffjiaaGreat
set_option linter.unusedSimpArgs false
open Go.RowKit
attribute [local go_sem ↓] Go.wp_at_zero Go.wp_at_succ

/-- the numbers of those that go -/
def goneL (l : List Lt) (q : Rq) : List Nat := (l.filter (goesB l q)).map Lt.uid
def expungeM (m : Ml) (q : Rq) (o : Oc) : Int × Ml × Oc := match namedI m q with
  | none => (6, m, o)
  | some i => match m.boxes[i]? with
    | none => (6, m, o)
    | some b =>
      if o.uids ++ goneL b.letters q = [] then (0, m, { o with uids := o.uids ++ goneL b.letters q })
      else if 9223372036854775807 ≤ b.high then (13, m, { o with uids := o.uids ++ goneL b.letters q })
      else (0, setM m i { b with high := b.high + 1, letters := b.letters.filter (fun x => !goesB b.letters q x) }, { o with uids := o.uids ++ goneL b.letters q })
section
variable {W0 W : World} {wb : Nat} {k : WkV} {m : Ml} {q : Rq} {y : RqV} {o : Oc}
end
section
variable {W0 W : World} {wb : Nat} {k : WkV} {m : Ml} {q : Rq} {y : RqV} {o : Oc}
end
end Go.Proofs.YtpkaoiadjffjiaaGreat
namespace Go.Proofs.YtpkaoiadjffjiaaGreat
set_option linter.unusedSimpArgs false
open Go.RowKit

/-- letters under new numbers -/
def copyL (h : Nat) : Nat → List Lt → List Lt
  | _, [] => []
  | n, x :: r => { x with uid := n, mod := h } :: copyL h (n + 1) r
theorem copyL_len (h : Nat) : ∀ (l : List Lt) (n : Nat), (copyL h n l).length = l.length
  | [], _ => rfl
  | _ :: r, n => by show (copyL h (n + 1) r).length + 1 = r.length + 1; rw [copyL_len h r (n + 1)]
/-- a mailbox with letters copied to it -/
def copied (d : Bx) (l : List Lt) : Bx := { d with next := d.next + l.length, high := d.high + 1, letters := d.letters ++ copyL (d.high + 1) d.next l }
def copyM (m : Ml) (q : Rq) (o : Oc) : Int × Ml × Oc := match namedI m q with
  | none => (6, m, o)
  | some i => match m.boxes[i]? with
    | none => (6, m, o)
    | some b => match m.boxes.findIdx? (fun x => x.name.toList == q.to_.toList) with
      | none => (21, m, o)
      | some t => match m.boxes[t]? with
        | none => (21, m, o)
        | some d =>
          if b.letters.filter (meantB b.letters q) = [] then (0, m, { o with validity := d.validity })
          else if 32 < d.letters.length + (b.letters.filter (meantB b.letters q)).length then (7, m, { o with validity := d.validity })
          else if 4294967296 < d.next + (b.letters.filter (meantB b.letters q)).length ∨ 9223372036854775807 ≤ d.high then (13, m, { o with validity := d.validity })
          else (0, setM m t (copied d (b.letters.filter (meantB b.letters q))), { o with validity := d.validity, uids := o.uids ++ List.range' d.next (b.letters.filter (meantB b.letters q)).length })
theorem setM_get {m : Ml} {i : Nat} (hi : i < m.boxes.length) (b : Bx) : (setM m i b).boxes[i]? = some b := by unfold setM; dsimp only; rw [List.getElem?_set_self hi]
theorem setM_len (m : Ml) (i : Nat) (b : Bx) : (setM m i b).boxes.length = m.boxes.length := List.length_set
section
variable {W0 W : World} {wb : Nat} {k : WkV} {m : Ml} {q : Rq} {y : RqV} {o : Oc}
end
/-- how far a copy is -/
structure CpSt (k0 : WkV) (m : Ml) (t : Nat) (d : Bx) (out : List LtV) (k : WkV) (j : Nat) : Prop where
  ok : WkOk k (setM m t (copied d ((out.take j).map LtV.x)))
  ab : k.ab = k0.ab
  has : HasL k.S out
  le : j ≤ out.length
theorem CpSt.at_ {k0 : WkV} {m : Ml} {t : Nat} {d : Bx} {out : List LtV} {k : WkV} {j : Nat} (h : CpSt k0 m t d out k j) (ht : t < m.boxes.length) : ∃ hl : t < k.bs.length, k.bs[t].b = copied d ((out.take j).map LtV.x) := by
  have hl : t < k.bs.length := by rw [h.ok.len, setM_len]; exact ht
  refine ⟨hl, ?_⟩
  have h1 := h.ok.get hl
  rw [setM_get ht] at h1
  exact (Option.some.inj h1).symm
end Go.Proofs.YtpkaoiadjffjiaaGreat
namespace Go.Proofs.YtpkaoiadjffjiaaGreat
open Go.RowKit Go.Lib Go.Sort

theorem HoldsSl.mono {B B' : Nat} {w : World} {v : Value} {l : List (List UInt8)} (h : HoldsSl B w v l) (hb : B' ≤ B) : HoldsSl B' w v l := by
  obtain ⟨ao, cap, hv, h⟩ := h
  refine ⟨ao, cap, hv, h.imp id ?_⟩
  rintro ⟨g, ha, hg, r⟩
  exact ⟨g, ha, Nat.le_trans hb hg, r⟩
end Go.Proofs.YtpkaoiadjffjiaaGreat
namespace Go.Proofs.YtpkaoiadjffjiaaGreat
set_option linter.unusedSimpArgs false
open Go.RowKit

/-- a letter that is meant, and held back -/
def stHeld (ls : List Lt) (q : Rq) (x : Lt) : Bool := meantB ls q x && (q.has && decide (q.since < x.mod))
/-- a letter that is meant, and done -/
def stDone (ls : List Lt) (q : Rq) (x : Lt) : Bool := meantB ls q x && !(q.has && decide (q.since < x.mod))
def stTurns (ls : List Lt) (q : Rq) (x : Lt) : Bool := stDone ls q x && !decide (chSet x.flags q.how q.flags = x.flags)
def stFails (ls : List Lt) (q : Rq) (x : Lt) : Bool := stDone ls q x && !decide (chCode x.flags q.how q.flags = 0)
def stNew (ls : List Lt) (q : Rq) (h : Nat) (x : Lt) : Lt := if stTurns ls q x then { x with flags := chSet x.flags q.how q.flags, mod := h + 1 } else x
def doneL (ls : List Lt) (q : Rq) (j : Nat) : List Nat := ((ls.take j).filter (stDone ls q)).map Lt.uid
def heldL (ls : List Lt) (q : Rq) (j : Nat) : List Nat := ((ls.take j).filter (stHeld ls q)).map Lt.uid
def storeO (ls : List Lt) (q : Rq) (o : Oc) (j : Nat) : Oc := { o with uids := o.uids ++ doneL ls q j, mods := o.mods ++ heldL ls q j }
def storeM (m : Ml) (q : Rq) (o : Oc) : Int × Ml × Oc := match namedI m q with
  | none => (6, m, o)
  | some i => match m.boxes[i]? with
    | none => (6, m, o)
    | some b =>
      if rightB q.flags = false ∨ q.how < 0 ∨ 2 < q.how then (1, m, o)
      else if b.letters.any (stFails b.letters q) then (7, m, o)
      else if b.letters.any (stTurns b.letters q) = false then (0, m, storeO b.letters q o b.letters.length)
      else if 9223372036854775807 ≤ b.high then (13, m, o)
      else (0, setM m i { b with high := b.high + 1, letters := b.letters.map (stNew b.letters q b.high) }, storeO b.letters q o b.letters.length)
/-- how far a store is -/
structure StSt (ls : List Lt) (q : Rq) (h : Nat) (S0 S : List (Value × List (List UInt8))) (nx : List LtV) (ch : Bool) (j : Nat) : Prop where
  now : nx.map LtV.x = (ls.take j).map (stNew ls q h) ++ ls.drop j
  has : HasL S nx
  sub : ∀ p ∈ S0, p ∈ S
  ch : ch = (ls.take j).any (stTurns ls q)
  good : (ls.take j).any (stFails ls q) = false
section
variable {ls : List Lt} {q : Rq} {h : Nat} {S0 S : List (Value × List (List UInt8))} {nx : List LtV} {ch : Bool} {j : Nat}
theorem StSt.len (s : StSt ls q h S0 S nx ch j) : nx.length = ls.length := by
  have := congrArg List.length s.now
  rw [List.length_map, List.length_append, List.length_map, List.length_take, List.length_drop] at this
  omega
theorem StSt.at_ (s : StSt ls q h S0 S nx ch j) (hj : j < ls.length) : (nx[j]'(by rw [s.len]; exact hj)).x = ls[j] := by
  have h1 : (nx.map LtV.x)[j]? = ls[j]? := by
    rw [s.now, List.getElem?_append_right (by rw [List.length_map, List.length_take]; omega), List.length_map, List.length_take, List.getElem?_drop]
    congr 1; omega
  rw [List.getElem?_map, List.getElem?_eq_getElem (by rw [s.len]; exact hj), List.getElem?_eq_getElem hj] at h1
  exact Option.some.inj h1
theorem StSt.skip (s : StSt ls q h S0 S nx ch j) (hj : j < ls.length) (hd : stTurns ls q ls[j] = false) (hf : stFails ls q ls[j] = false) : StSt ls q h S0 S nx ch (j + 1) := by
  refine ⟨?_, s.has, s.sub, ?_, ?_⟩
  · rw [s.now, List.take_succ_eq_append_getElem hj, List.map_append, List.drop_eq_getElem_cons hj, List.append_assoc]
    simp [stNew, hd]
  · rw [List.take_succ_eq_append_getElem hj, List.any_append, ← s.ch]; simp [hd]
  · rw [List.take_succ_eq_append_getElem hj, List.any_append, s.good]; simp [hf]
theorem StSt.turn (s : StSt ls q h S0 S nx ch j) (hj : j < ls.length) (hd : stTurns ls q ls[j] = true) (hf : stFails ls q ls[j] = false) (z : LtV) (hz : z.x = { ls[j] with flags := chSet ls[j].flags q.how q.flags, mod := h + 1 }) : StSt ls q h S0 ((z.v, z.x.flags) :: S) (nx.set j z) true (j + 1) := by
  refine ⟨?_, fun w hw => ?_, fun p hp => List.mem_cons_of_mem _ (s.sub p hp), ?_, ?_⟩
  · rw [List.map_set, s.now, hz, List.take_succ_eq_append_getElem hj, List.map_append, List.drop_eq_getElem_cons hj, List.append_assoc, List.set_append_right _ _ (by rw [List.length_map, List.length_take]; omega), List.length_map, List.length_take, show j - min j ls.length = 0 from by omega, List.set_cons_zero]
    simp [stNew, hd]
  · rcases List.mem_or_eq_of_mem_set hw with hw | rfl
    · exact List.mem_cons_of_mem _ (s.has w hw)
    · exact List.mem_cons_self ..
  · rw [List.take_succ_eq_append_getElem hj, List.any_append]; simp [hd]
  · rw [List.take_succ_eq_append_getElem hj, List.any_append, s.good]; simp [hf]
theorem StSt.more (s : StSt ls q h S0 S nx ch j) (p : Value × List (List UInt8)) : StSt ls q h S0 (p :: S) nx ch j :=
  ⟨s.now, fun w hw => List.mem_cons_of_mem _ (s.has w hw), fun p hp => List.mem_cons_of_mem _ (s.sub p hp), s.ch, s.good⟩
end
end Go.Proofs.YtpkaoiadjffjiaaGreat



namespace Go.Proofs.YtpkaoiadjffjiaaGreat
set_option linter.unusedSimpArgs false
open Go.RowKit Go.Maps Go.WideMaps Go.Sort Go.Lib
attribute [local go_sem ↓] Go.wp_at_zero Go.wp_at_succ

/-- a home whose node is no great number -/
abbrev BHm := {h : Hm // 0 ≤ h.node ∧ h.node ≤ 1000000}
instance : Inhabited BHm := ⟨⟨⟨0, 0, 0⟩, by decide⟩⟩
/-- homes by their nodes -/
def hltB (a b : Hm) : Bool := decide (a.node < b.node)
def settleM (m : Ml) (at_ : Int) (h : Hm) : Ml := if 0 ≤ at_ then { m with homes := m.homes.set at_.toNat h } else { m with homes := insS hltB h m.homes }
end Go.Proofs.YtpkaoiadjffjiaaGreat

namespace Go.Proofs.YtpkaoiadjffjiaaGreat
set_option linter.unusedSimpArgs false
open Go.RowKit Go.Maps Go.WideMaps Go.Sort Go.Lib
attribute [local go_sem ↓] Go.wp_at_zero Go.wp_at_succ

theorem bytes_tri (a b : List UInt8) : bytesBefore a b = true ∨ a = b ∨ bytesBefore b a = true := by
  by_cases h : a = b
  · exact .inr (.inl h)
  · rcases bytes_sto.tot a b h with h | h
    · exact .inl h
    · exact .inr (.inr h)
instance : Inhabited BxV := ⟨⟨⟨#[]⟩, 0, 0, 0, [], none, 0⟩⟩
/-- mailboxes by their names -/
def bxltB (a b : Bx) : Bool := bytesBefore a.name.data.toList b.name.data.toList
def createM (m : Ml) (q : Rq) (o : Oc) : Int × Ml × Oc :=
  if boxOk q.box.data.toList = false ∨ boxL q.box.data.toList ≠ q.box.data.toList then (1, m, o)
  else match m.boxes.findIdx? (fun x => x.name.toList == q.box.toList) with
    | some _ => (12, m, o)
    | none =>
      if 8 ≤ m.boxes.length then (7, m, o)
      else if 4294967295 < m.nv then (13, m, o)
      else (0, { m with boxes := insS bxltB ⟨q.box, m.nv, 1, 1, []⟩ m.boxes, nv := m.nv + 1 }, { o with validity := m.nv })
end Go.Proofs.YtpkaoiadjffjiaaGreat

namespace Go.Proofs.YtpkaoiadjffjiaaGreat
set_option linter.unusedSimpArgs false
open Go.RowKit

def newBx : BxV := ⟨⟨#[73, 78, 66, 79, 88]⟩, 1, 1, 1, [], none, 0⟩
def newM : Ml := ⟨[newBx.b], 2, [], [], 1, 0⟩
/-- what a call hands back that reads as a state -/
def MlRet (W : World) (m : Ml) (e : Ending) (w' : World) : Prop := ∃ v, e = .returned v ∧ Hid (MlIn w' v m) ∧ Hid (Below W.heap.size W w')
theorem new_in (W : World) : MlIn (W.alloc (.cells (bxT.enc newBx).toArray 40)) (mlVal (.slice (some ⟨W.heap.size, 0, none⟩) 1 1) 2 (.slice none 0 0) (.slice none 0 0) 1 0) newM :=
  ⟨_, _, _, [newBx], rfl, rfl, ⟨(RT.Own.one bxT W newBx _ rfl).rd, fun y hy => by
    simp only [List.mem_singleton] at hy
    subst hy
    exact ⟨(RT.Own.nil ltT _).rd, fun z hz => by cases hz⟩⟩, (RT.Own.nil hmT _).rd, (RT.Own.nil stT _).rd⟩
set_option maxRecDepth 100000 in
set_option maxHeartbeats 4000000 in
theorem new_any (W : World) : Calls Tryz.prog 11 #[] W (MlRet W newM) := by
  have hz := ((Zoo.nil W).newBox #[.slice (some ⟨W.heap.size + 1, 0, none⟩) 1 1, .int .u64 2, .slice none 0 0, .slice none 0 0, .int .u64 1, .int .u64 0] 27).newBox #[.string ⟨#[73, 78, 66, 79, 88]⟩, .int .u64 1, .int .u64 1, .int .u64 1, .slice none 0 0] 40
  have h1 := new_in (W.alloc (.cells #[.slice (some ⟨W.heap.size + 1, 0, none⟩) 1 1, .int .u64 2, .slice none 0 0, .slice none 0 0, .int .u64 1, .int .u64 0] 27))
  rw [show (W.alloc (.cells #[.slice (some ⟨W.heap.size + 1, 0, none⟩) 1 1, .int .u64 2, .slice none 0 0, .slice none 0 0, .int .u64 1, .int .u64 0] 27)).heap.size = W.heap.size + 1 from by simp] at h1
  obtain ⟨hb, -⟩ := hz.box 1 rfl
  have h2 := Lib.hid hz.bel
  replace h1 := Lib.hid h1
  replace hb := Lib.hid hb
  clear hz
  go_enter Tryz.func11, Tryz.ntmps11
  go_wp2_with fail
  refine bodyPost_ret (results_cell_row rfl _ _ _ 27 _ (0, 0) _ rfl hb.out Tryz.underlying27 rfl rfl) rfl ?_
  exact ⟨_, rfl, h1, h2⟩
end Go.Proofs.YtpkaoiadjffjiaaGreat

namespace Go.Proofs.YtpkaoiadjffjiaaGreat
set_option linter.unusedSimpArgs false
open Go.RowKit
attribute [local go_sem ↓] Go.wp_at_zero Go.wp_at_succ

def homeOf (m : Ml) (node : Int) : Hm := (m.homes.find? (fun x => x.node == node)).getD ⟨0, 0, 0⟩
def seatsO (m : Ml) (q : Rq) : List St := if (homeOf m q.node).life < q.life then m.seats.filter (fun x => !(x.node == q.node)) else m.seats
def openM (m : Ml) (q : Rq) (o : Oc) : Int × Ml × Oc :=
  if q.node < 1 ∨ 5 < q.node ∨ q.life = 0 ∨ q.try_ = 0 then (1, m, o)
  else if q.life < (homeOf m q.node).life then (14, m, o)
  else if (homeOf m q.node).life = q.life ∧ q.try_ ≤ (homeOf m q.node).try_ then
    match m.seats.find? (fun x => x.node == q.node && x.try_ == q.try_) with
    | none => (14, m, o)
    | some x => (0, m, { o with session := x.session })
  else if 16 ≤ (seatsO m q).length ∨ 4611686018427387904 ≤ m.ns then (7, m, o)
  else (0, settleM { m with seats := seatsO m q ++ [⟨m.ns, 0, q.node, q.life, q.try_⟩], ns := m.ns + 1 } (idxI (fun x => x.node == q.node) m.homes) ⟨q.node, q.life, q.try_⟩, { o with session := m.ns })
/-- what a state must be that a node may open a seat of it -/
structure HomesOk (m : Ml) : Prop where
  sorted : m.homes.Pairwise (fun x y => x.node < y.node)
  small : ∀ x ∈ m.homes, 0 ≤ x.node ∧ x.node ≤ 1000000
end Go.Proofs.YtpkaoiadjffjiaaGreat
namespace Go.Proofs.YtpkaoiadjffjiaaGreat
set_option linter.unusedSimpArgs false
open Go.RowKit
attribute [local go_sem ↓] Go.wp_at_zero Go.wp_at_succ

def doesM (m : Ml) (q : Rq) : Int × Ml × Oc :=
  if q.op = 1 then openM m q oc0 else if q.op = 2 then endM m q oc0 else if q.op = 3 then lookM m q oc0 else if q.op = 4 then createM m q oc0
  else if q.op = 5 then removeM m q oc0 else if q.op = 6 then appendM m q oc0 else if q.op = 7 then storeM m q oc0 else if q.op = 8 then expungeM m q oc0
  else if q.op = 9 then copyM m q oc0 else sweepM m q oc0
def ocE (n : Int) : Oc := { oc0 with code := n }
def finM (r : Int × Ml × Oc) : Ml × Oc := if r.1 = 0 then (r.2.1, r.2.2) else (r.2.1, ocE r.1)
def seatPut (m : Ml) (i : Nat) (n : Nat) : Ml := { m with seats := m.seats.modify i (fun x => { x with last := n }) }
def applyM (m : Ml) (q : Rq) : Ml × Oc :=
  if q.op < 1 ∨ 11 ≤ q.op ∨ 64 < q.uids.length then (m, ocE 1)
  else if q.op = 1 ∨ q.op = 10 then finM (doesM m q)
  else match m.seats.findIdx? (fun x => x.session == q.session) with
    | none => (m, ocE 16)
    | some i => if q.number ≤ ((m.seats[i]?).map St.last).getD 0 then (m, ocE 14) else finM (doesM (seatPut m i q.number) q)
structure ApSt (m : Ml) : Prop where
  sz : Sized1 m
  nb : m.boxes.length ≤ 500
  nh : m.homes.length ≤ 100
  hm : HomesOk m
  nx : ∀ b ∈ m.boxes, b.next ≤ 4294967296
  hi : ∀ b ∈ m.boxes, b.high ≤ 9223372036854775807
  fs : ∀ b ∈ m.boxes, ∀ x ∈ b.letters, Sized x.flags
  so : m.boxes.Pairwise (fun x y => bxltB x y = true)
  sw : m.sweeps ≤ 9223372036854775807
theorem ApSt.put {m : Ml} (h : ApSt m) (i n : Nat) : ApSt (seatPut m i n) := ⟨⟨h.sz.boxes, h.sz.homes, by show (m.seats.modify i _).length ≤ 1000; rw [List.length_modify]; exact h.sz.seats, h.sz.letters, h.sz.flags⟩, h.nb, h.nh, ⟨h.hm.sorted, h.hm.small⟩, h.nx, h.hi, h.fs, h.so, h.sw⟩
/-- the things stand in a world whose elder blocks have turned -/
theorem Zoo.rebase {Wb W0 W W' : World} {L : List Th} (h : Zoo W0 W L) (hB : Below Wb.heap.size Wb W') (hs : Wb.heap.size ≤ W0.heap.size) (hk : ∀ k, W0.heap.size ≤ k → W'.heap[k]? = W.heap[k]?) : Zoo Wb W' L := by
  obtain ⟨h0, P, h1, h2⟩ := h
  exact ⟨hB, P, h1, ⟨fun x hx => x.1.kept _ _ _ (h2.holds x hx) (fun k hF => hk k (h2.low x hx k hF)), fun x hx k hF => Nat.le_trans hs (h2.low x hx k hF), h2.apart⟩⟩
def OcIn (W : World) (v : Value) (o : Oc) : Prop := ∃ aU cU aM cM, v = .agg #[.int .i64 o.code, .int .u64 o.session, .int .u64 o.validity, .slice aU o.uids.length cU, .slice aM o.mods.length cM] ∧ Rd W (.slice aU o.uids.length cU) o.uids.length (u64T.cells o.uids) ∧ Rd W (.slice aM o.mods.length cM) o.mods.length (u64T.cells o.mods)
theorem OcIn.below {W W' : World} {v : Value} {o : Oc} (h : OcIn W v o) (hb : Below W.heap.size W W') : OcIn W' v o := by
  obtain ⟨aU, cU, aM, cM, h1, h2, h3⟩ := h
  exact ⟨aU, cU, aM, cM, h1, h2.below hb, h3.below hb⟩
/-- P holds of w, and of whatever keeps the blocks that count -/
def Stay (ok : Nat → Prop) (w : World) (P : World → Prop) : Prop := ∀ w' : World, (∀ k, ok k → k < w.heap.size → w'.heap[k]? = w.heap[k]?) → P w'
theorem Stay.now {ok : Nat → Prop} {w : World} {P : World → Prop} (h : Stay ok w P) : P w := h w (fun _ _ _ => rfl)
theorem Stay.on {ok : Nat → Prop} {w w' : World} {P : World → Prop} (h : Stay ok w P) (hs : w.heap.size ≤ w'.heap.size) (hw : ∀ k, ok k → k < w.heap.size → w'.heap[k]? = w.heap[k]?) : Stay ok w' P :=
  fun w2 h2 => h w2 (fun k hk hl => (h2 k hk (by omega)).trans (hw k hk hl))
theorem Stay.below {ok : Nat → Prop} {w w' : World} {P : World → Prop} (h : Stay ok w P) (hb : Below w.heap.size w w') : Stay ok w' P := h.on hb.size (fun k _ hl => hb.block k hl)
theorem Stay.weak {ok ok2 : Nat → Prop} {w : World} {P : World → Prop} (h : Stay ok w P) (hi : ∀ k, k < w.heap.size → ok k → ok2 k) : Stay ok2 w P :=
  fun w2 h2 => h w2 (fun k hk hl => h2 k (hi k hl hk) hl)
theorem Stay.mono {ok : Nat → Prop} {w : World} {P Q : World → Prop} (h : Stay ok w P) (hi : ∀ w', P w' → Q w') : Stay ok w Q := fun w2 h2 => hi w2 (h w2 h2)
/-- what lies in things that are new stays where they stay -/
theorem Zoo.stay {W1 w wF : World} {L : List Th} {P : World → Prop} (hz : Zoo W1 w L) (hh : ∀ j, W1.heap.size ≤ j → wF.heap[j]? = w.heap[j]?) (hP : ∀ W0 w', Zoo W0 w' L → P w') (hB : ∀ a b, P a → Below a.heap.size a b → P b) : Stay (fun j => W1.heap.size ≤ j) wF P := by
  intro w' hw'
  have h1 : Zoo { w' with heap := #[] } { w' with heap := w'.heap.extract 0 wF.heap.size } L := hz.rebase ⟨rfl, rfl, rfl, by simp, fun k hk => by simp at hk⟩ (by simp) (fun k hk => by
    rw [← hh k hk]
    rcases Nat.lt_or_ge k wF.heap.size with h | h
    · rw [← hw' k hk h, Array.getElem?_extract]
      simp [h]
      omega
    · rw [Array.getElem?_eq_none h, Array.getElem?_eq_none]
      simp only [Array.size_extract]
      omega)
  refine hB _ _ (hP _ _ h1) ⟨rfl, rfl, rfl, by simp only [Array.size_extract]; omega, fun k hk => ?_⟩
  simp only [Array.size_extract] at hk
  show w'.heap[k]? = (w'.heap.extract 0 wF.heap.size)[k]?
  rw [Array.getElem?_extract]
  simp only [Nat.zero_add]
  rw [if_pos (by omega)]
end Go.Proofs.YtpkaoiadjffjiaaGreat
namespace Go.Proofs.YtpkaoiadjffjiaaGreat
set_option linter.unusedSimpArgs false
open Go.RowKit
attribute [local go_sem ↓] Go.wp_at_zero Go.wp_at_succ

theorem boxSome {w : World} {B : Nat} {C : List Value} {t : TypeId} (h : w.heap[B]? = some (.cells C.toArray t (0, 0))) : (∀ j, j < C.length → (w.cell? ⟨B, 0 + j, none⟩).isSome = true) ∧ ∀ j, w.frozen? ⟨B, j, none⟩ = false := by
  refine ⟨fun j hj => ?_, box_free h⟩
  rw [Nat.zero_add, box_cell h j, List.getElem?_toArray, List.getElem?_eq_getElem hj]; rfl
end Go.Proofs.YtpkaoiadjffjiaaGreat
namespace Go.Proofs.YtpkaoiadjffjiaaGreat
set_option linter.unusedSimpArgs false
open Go.RowKit
attribute [local go_sem ↓] Go.wp_at_zero Go.wp_at_succ

def fewN (n : Nat) : Nat := min n 1048576
theorem fewN_le (n : Nat) : fewN n ≤ 1048576 := Nat.min_le_right _ _
theorem few_any (n : Nat) (w : World) : Calls Tryz.prog 12 #[.int .i64 n] w fun e w' => e = .returned (.int .i64 (fewN n)) ∧ w = w' := by
  have e : min (n : Int) 1048576 = ((fewN n : Nat) : Int) := by unfold fewN; omega
  go_enter Tryz.func12, Tryz.ntmps12
  go_wp2_with fail
  go_ret
  exact ⟨by first | rw [e] | (congr 2), rfl⟩
def textN (s : List UInt8) : Nat := fewN s.length / 16
def textsN (l : List (List UInt8)) : Nat := if 200 < l.length then 1048576 else l.length + (l.map textN).sum
theorem textN_le (s : List UInt8) : textN s ≤ 65536 := by unfold textN; have := fewN_le s.length; omega
theorem sum_mem_le {α : Type} (f : α → Nat) (c : Nat) : ∀ (l : List α), (∀ x ∈ l, f x ≤ c) → (l.map f).sum ≤ l.length * c
  | [], _ => by simp
  | x :: r, h => by
    have := sum_mem_le f c r (fun y hy => h y (by simp [hy]))
    have := h x (by simp)
    simp only [List.map_cons, List.sum_cons, List.length_cons, Nat.succ_mul]
    omega
theorem sum_take {α : Type} (f : α → Nat) (l : List α) (j : Nat) (hj : j < l.length) : ((l.take (j + 1)).map f).sum = ((l.take j).map f).sum + f l[j] := by
  rw [List.take_succ_eq_append_getElem hj, List.map_append, List.sum_append]; simp
theorem sum_take_le {α : Type} (f : α → Nat) (c n : Nat) (l : List α) (j : Nat) (hj : j ≤ n) (h : ∀ x ∈ l, f x ≤ c) : ((l.take j).map f).sum ≤ n * c := by
  refine Nat.le_trans (sum_mem_le f c (l.take j) (fun x hx => h x (List.mem_of_mem_take hx))) ?_
  exact Nat.mul_le_mul_right c (by rw [List.length_take]; omega)
set_option maxRecDepth 100000 in
set_option maxHeartbeats 4000000 in
theorem texts_any (v : Value) (l : List (List UInt8)) (w : World) (hr : FlIn w v l) : Calls Tryz.prog 13 #[v] w fun e w' => e = .returned (.int .i64 (textsN l)) ∧ w = w' := by
  obtain ⟨ao, cap, rfl, hc⟩ := hr
  by_cases h200 : 200 < l.length
  · have hR : Hid (textsN l = 1048576) := Lib.hid (by unfold textsN; rw [if_pos h200])
    have h200' : (200 : Int) < (l.length : Int) := by omega
    clear hc
    go_enter Tryz.func13, Tryz.ntmps13
    go_wp2_with fail
    go_ret
    exact ⟨by rw [hR.out]; rfl, rfl⟩
  · have h200' : decide ((200 : Int) < (l.length : Int)) = false := decide_eq_false (by omega)
    have hR : Hid (textsN l = l.length + ((l.take l.length).map textN).sum) := Lib.hid (by unfold textsN; rw [if_neg h200, List.take_length])
    replace hc := Lib.hid hc
    go_enter Tryz.func13, Tryz.ntmps13
    go_wp2_with fail
    go_loopw [3, 4] (fun v3 v4 wr => ∃ j N : Nat, v4 = .int .i64 j ∧ v3 = .int .i64 N ∧ j ≤ l.length ∧ Hid (N = l.length + ((l.take j).map textN).sum) ∧ w = wr) (fun _ v4 _ => l.length - (intOf v4).toNat)
    case atStart => exact ⟨0, l.length, rfl, rfl, Nat.zero_le _, Lib.hid (by simp), rfl⟩
    case round =>
      obtain ⟨j, N, rfl, rfl, hj, hN, rfl⟩ := hrel
      have hb := sum_take_le textN 65536 200 l j (by omega) (fun x _ => textN_le x)
      have hNb : N ≤ 13107400 := by have := hN.out; omega
      clear hb
      by_cases hlt : j < l.length
      · rcases hc.out with h | ⟨b, o, rfl, hb2, hle, hcell⟩
        · omega
        · have c0 := rd_cell hcell hlt
          have hs := Lib.hid (sum_take textN l j hlt)
          obtain ⟨x, hx⟩ : ∃ x, l[j] = x := ⟨_, rfl⟩
          rw [hx] at c0 hs
          have hxz : (mkB x).size = x.length := rfl
          have htl := textN_le x
          have hN2 : Hid (N + fewN (mkB x).size / 16 = l.length + ((l.take (j + 1)).map textN).sum) := Lib.hid (by
            rw [hs.out, hN.out, hxz]
            unfold textN
            omega)
          have hjI : (0 : Int) ≤ (j : Int) := by omega
          have hjl : (j : Int) < (l.length : Int) := by omega
          have hfew := Lib.hid (few_any (mkB x).size w)
          have hfl := fewN_le (mkB x).size
          generalize fewN (mkB x).size = fw at *
          clear hx hcell hxz hs hN htl
          go_wp2_with fail
          refine hfew.out.mono ?_
          rintro e w1 ⟨rfl, rfl⟩
          go_wp2_with fail
          go_roundw
          case rel => exact ⟨j + 1, N + fw / 16, by go_num, by congr 1, by omega, hN2, trivial⟩
          case measure => simp [intOf] <;> omega
      · have hl1 : (l.length : Int) ≤ (j : Int) := by omega
        have hRN : Hid (textsN l = N) := Lib.hid (by rw [hR.out, hN.out, show j = l.length from by omega])
        clear hR hN hc
        go_wp2_with fail
        go_ret
        exact ⟨by rw [hRN.out]; rfl, rfl⟩
end Go.Proofs.YtpkaoiadjffjiaaGreat


namespace Go.Proofs.YtpkaoiadjffjiaaGreat
set_option linter.unusedSimpArgs false
open Go.RowKit

/-- a yes or a no, whether P -/
def YesNo (P : Prop) (W : World) (e : Ending) (w' : World) : Prop := ∃ B, e = .returned (.bool B) ∧ Hid (B = true ↔ P) ∧ Hid (Below W.heap.size W w')
structure LetP (x : Lt) (b : Bx) : Prop where
  u1 : 0 < x.uid
  u2 : x.uid < b.next
  fl : rightB x.flags = true
  m1 : 0 < x.mod
  m2 : x.mod ≤ b.high
  hs : x.hash.size = 32
  sz : x.size ≤ 4096
structure BoxP (b : Bx) (next : Nat) : Prop where
  ok : boxOk b.name.data.toList = true
  nm : boxL b.name.data.toList = b.name.data.toList
  v1 : 1 ≤ b.validity
  v2 : b.validity < next
  n1 : 1 ≤ b.next
  n2 : b.next ≤ 4294967296
  h1 : 1 ≤ b.high
  h2 : b.high ≤ 9223372036854775807
  len : b.letters.length ≤ 32
  lets : ∀ x ∈ b.letters, LetP x b
  up : b.letters.Pairwise (fun x y => x.uid < y.uid)
structure HomeP (h : Hm) : Prop where
  n1 : 1 ≤ h.node
  n2 : h.node ≤ 5
  l : h.life ≠ 0
  t : h.try_ ≠ 0
structure SeatP (m : Ml) (x : St) : Prop where
  s1 : 1 ≤ x.session
  s2 : x.session < m.ns
  t1 : 1 ≤ x.try_
  home : ∃ h ∈ m.homes, h.node = x.node ∧ h.life = x.life ∧ x.try_ ≤ h.try_
structure SeatsP (m : Ml) : Prop where
  homes : ∀ h ∈ m.homes, HomeP h
  hup : m.homes.Pairwise (fun x y => x.node < y.node)
  seats : ∀ x ∈ m.seats, SeatP m x
  sup : m.seats.Pairwise (fun x y => x.session < y.session)
  twin : m.seats.Pairwise (fun x y => ¬ (x.node = y.node ∧ x.try_ = y.try_))
structure RightP (m : Ml) : Prop where
  lb : m.boxes.length ≤ 8
  nv : m.nv ≤ 4294967296
  ns1 : 1 ≤ m.ns
  ns2 : m.ns ≤ 4611686018427387904
  sw : m.sweeps ≤ 9223372036854775807
  ls : m.seats.length ≤ 16
  boxes : ∀ b ∈ m.boxes, BoxP b m.nv
  names : m.boxes.Pairwise (fun x y => bxltB x y = true)
  vals : m.boxes.Pairwise (fun x y => x.validity ≠ y.validity)
  inbox : ∃ b ∈ m.boxes, b.name.data.toList = inboxL
  seated : SeatsP m
theorem short_nodes : ∀ (l : List Hm) (k : Int), (∀ h ∈ l, k < h.node ∧ h.node ≤ 5) → l.Pairwise (fun x y => x.node < y.node) → (l.length : Int) ≤ max 0 (5 - k)
  | [], k, _, _ => by simp; omega
  | h :: r, k, h1, h2 => by
    have h2' := List.pairwise_cons.1 h2
    have hh := h1 h (by simp)
    have := short_nodes r h.node (fun x hx => ⟨h2'.1 x hx, (h1 x (by simp [hx])).2⟩) h2'.2
    simp only [List.length_cons]
    omega
theorem RightP.homes5 {m : Ml} (h : RightP m) : m.homes.length ≤ 5 := by
  have := short_nodes m.homes 0 (fun x hx => ⟨by have := (h.seated.homes x hx).n1; omega, (h.seated.homes x hx).n2⟩) h.seated.hup
  omega
theorem right_sized {l : List (List UInt8)} (h : rightB l = true) : Sized l := short_of (right_short h)
theorem RightP.sized {m : Ml} (h : RightP m) : Sized1 m := ⟨by have := h.lb; omega, by have := h.homes5; omega, by have := h.ls; omega, fun b hb => by have := (h.boxes b hb).len; omega, fun b hb x hx => by have := right_16 ((h.boxes b hb).lets x hx).fl; omega⟩
theorem RightP.ap {m : Ml} (h : RightP m) : ApSt m where
  sz := h.sized
  nb := by have := h.lb; omega
  nh := by have := h.homes5; omega
  hm := ⟨h.seated.hup, fun x hx => by have := (h.seated.homes x hx).n1; have := (h.seated.homes x hx).n2; omega⟩
  nx := fun b hb => (h.boxes b hb).n2
  hi := fun b hb => (h.boxes b hb).h2
  fs := fun b hb x hx => right_sized ((h.boxes b hb).lets x hx).fl
  so := h.names
  sw := h.sw
/-- a list whose numbers rise so far -/
def UpTo (l : List Lt) (b : Bx) (j : Nat) (last : Nat) : Prop := (∀ x ∈ l.take j, LetP x b) ∧ (l.take j).Pairwise (fun x y => x.uid < y.uid) ∧ ∀ x ∈ l.take j, x.uid ≤ last
theorem UpTo.zero (l : List Lt) (b : Bx) : UpTo l b 0 0 := ⟨fun x hx => by simp at hx, by simp, fun x hx => by simp at hx⟩
theorem UpTo.step {l : List Lt} {b : Bx} {j last : Nat} (h : UpTo l b j last) (hj : j < l.length) (hp : LetP l[j] b) (hl : last < l[j].uid) : UpTo l b (j + 1) l[j].uid := by
  unfold UpTo
  rw [List.take_succ_eq_append_getElem hj]
  refine ⟨fun x hx => ?_, ?_, fun x hx => ?_⟩
  · rcases List.mem_append.1 hx with hx | hx
    · exact h.1 x hx
    · rw [List.mem_singleton.1 hx]; exact hp
  · refine List.pairwise_append.2 ⟨h.2.1, by simp, fun x hx y hy => ?_⟩
    rw [List.mem_singleton.1 hy]
    have := h.2.2 x hx
    omega
  · rcases List.mem_append.1 hx with hx | hx
    · have := h.2.2 x hx; omega
    · rw [List.mem_singleton.1 hx]; exact Nat.le_refl _
theorem BoxP.last {b : Bx} {next : Nat} (h : BoxP b next) {j last : Nat} (hj : j < b.letters.length) (hl : j = 0 ∧ last = 0 ∨ ∃ k, k < j ∧ b.letters[k]?.map Lt.uid = some last) : last < b.letters[j].uid := by
  rcases hl with ⟨rfl, rfl⟩ | ⟨k, hk, e⟩
  · exact (h.lets _ (List.getElem_mem hj)).u1
  · rw [List.getElem?_eq_getElem (by omega)] at e
    have := List.pairwise_iff_getElem.1 h.up k j (by omega) hj hk
    have := Option.some.inj e
    omega
end Go.Proofs.YtpkaoiadjffjiaaGreat
