/- What a mailbox may be called: walked. slices.Delete at mailboxes; named, remove: walked. named, meant: walked. A work's mailboxes turned one by one: plain. Loads and stores of many cells at once. The document's side of flags, walked: Canon, place, less, Has, With. Lists of flags that the call makes: With, Make of both, Same. Make, of the program and of the document; Same. nothing of its own Has, Right of both, great: walked. nothing of its own nothing of its own nothing of its own nothing of its own Change, of the program and of the document. nothing of its own append: walked. nothing of its own nothing of its own copy: what it computes; steps of its walk. flag.Change, and that what it hands back lies in new memory: walked. store: what it computes: plain. nothing of its own nothing of its own nothing of its own settle: walked. nothing of its own create: walked. nothing of its own mail.New, and the document's: walked. mail.Find: walked. open: walked. Apply: what it computes, and its parts. Apply: walked. (written by tools/gen_MmG.py) -/
import Derived.Test.YtcnebfmlelcliaaB03
import Derived.Shelf.RegionOpenPlain
import Derived.Deep.RegionLaw
import Derived.Test.YtcnebfmlelcliaaB02
import Derived.Deep.QuietTactic
import Derived.BigQuiet
import Derived.Lib.AppendZeros
import Derived.Laws.EntriesVeiled
import Derived.Deep.DeepCutAuto
import Derived.Laws.ResultCell
namespace Go.Proofs.Ytcnebfmlelcliaa
open Go.RowKit

theorem quot_step {p : Int → Bool} (s : ByteArray) (k : Nat) (h : k < s.size) (hq : Hid (allB p (s.data.toList.take k) = true)) (hc : p s[k].toNat = true) : Hid (allB p (s.data.toList.take (k + 1)) = true) := by
  show _ = _
  rw [take_snoc s k h, allB_snoc, hq.out, hc]; rfl
def inboxL : List UInt8 := [73, 78, 66, 79, 88]
def boxEnds (l : List UInt8) : Bool := !((l.headD 0).toNat == (32 : Int)) && !((l.getLastD 0).toNat == (32 : Int))
def boxOk (l : List UInt8) : Bool := allS boxB l && (decide (l.length ≤ 64) && boxEnds l)
def boxL (l : List UInt8) : List UInt8 := if boxOk l then (if upL l == inboxL then inboxL else l) else []
def RetBox (l : List UInt8) (w : World) (e : Ending) (w' : World) : Prop := ∃ u : ByteArray, e = .returned (.tuple #[.string u, .bool (boxOk l)]) ∧ Hid (u.data.toList = boxL l) ∧ Below w.heap.size w w'

theorem head_at (s : ByteArray) (h : 0 < s.size) : s.data.toList.headD 0 = s[0] := by
  have := drop_cons s 0 h
  rw [List.drop_zero] at this
  generalize s.data.toList.drop (0 + 1) = r at this
  rw [this]; rfl
theorem last_at (s : ByteArray) (h : 0 < s.size) : s.data.toList.getLastD 0 = s[s.size - 1]'(by omega) := by
  have h1 := take_snoc s (s.size - 1) (by omega)
  rw [show s.size - 1 + 1 = s.size from by omega, take_all] at h1
  generalize s.data.toList.take (s.size - 1) = r at h1
  rw [h1]; simp
theorem box_no {l : List UInt8} (h : boxOk l = false) : boxL l = [] := by rw [boxL, h]; rfl
theorem ret_box {l : List UInt8} {s : ByteArray} {b : Bool} (h : b = boxOk l) : Ending.returned (.tuple #[.string s, .bool b]) = .returned (.tuple #[.string s, .bool (boxOk l)]) := by rw [h]
theorem box_bad_len (s : ByteArray) (h : ¬ s.size ≤ 64) : boxOk s.data.toList = false := by rw [boxOk, ← size_len, decide_eq_false h]; simp
theorem box_bad_0 (s : ByteArray) (h : 0 < s.size) (h0 : ((s[0].toNat : Int) == 32) = true) : boxOk s.data.toList = false := by rw [boxOk, boxEnds, head_at s h, h0]; simp
theorem box_bad_1 (s : ByteArray) (h : 0 < s.size) (h1 : (((s[s.size - 1]'(by omega)).toNat : Int) == 32) = true) : boxOk s.data.toList = false := by rw [boxOk, boxEnds, last_at s h, h1]; simp
theorem box_good (s : ByteArray) (h : 0 < s.size) (ha : allS boxB s.data.toList = true) (hsz : s.size ≤ 64) (h0 : ((s[0].toNat : Int) == 32) = false) (h1 : (((s[s.size - 1]'(by omega)).toNat : Int) == 32) = false) : boxOk s.data.toList = true := by
  rw [boxOk, boxEnds, head_at s h, last_at s h, h0, h1, ha, ← size_len, decide_eq_true hsz]; rfl
theorem box_inbox {s u : ByteArray} (hk : boxOk s.data.toList = true) (hu : u.data.toList = upL s.data.toList) (hn : (u.toList == [73, 78, 66, 79, 88]) = true) : (⟨#[73, 78, 66, 79, 88]⟩ : ByteArray).data.toList = boxL s.data.toList := by
  rw [ByteArray.toList_eq, hu] at hn
  rw [boxL, hk, if_pos rfl, if_pos (show (upL s.data.toList == inboxL) = true from hn)]; rfl
theorem box_same {s u : ByteArray} (hk : boxOk s.data.toList = true) (hu : u.data.toList = upL s.data.toList) (hn : (u.toList == [73, 78, 66, 79, 88]) = false) : s.data.toList = boxL s.data.toList := by
  rw [ByteArray.toList_eq, hu] at hn
  rw [boxL, hk, if_pos rfl, if_neg (by rw [inboxL, hn]; simp)]
theorem boxB_low {c : Int} (h : c < 32) : boxB c = false := by rw [boxB, decide_eq_false (by omega)]; rfl
theorem boxB_high {c : Int} (h : 126 < c) : boxB c = false := by rw [boxB, decide_eq_false (p := c < 127) (by omega)]; simp
theorem boxB_mid {c : Int} (h1 : 32 ≤ c) (h2 : c ≤ 126) : boxB c = !inL c [37, 42, 34, 92] := by rw [boxB, decide_eq_true h1, decide_eq_true (p := c < 127) (by omega)]; rfl
theorem allS_false {p : Int → Bool} (s : ByteArray) (k : Nat) (h : k < s.size) (hp : p s[k].toNat = false) : allS p s.data.toList = false := by rw [allS, allB_false p s k h hp]; rfl
theorem allS_true {p : Int → Bool} (s : ByteArray) (h : 0 < s.size) (hp : allB p s.data.toList = true) : allS p s.data.toList = true := by
  rw [allS, hp, ← size_pos_bool, decide_eq_true h]; rfl
theorem boxB_bad {c : Int} (h : (c < 32 ∨ 126 < c) ∨ inL c [37, 42, 34, 92] = true) : boxB c = false := by
  rcases h with (h | h) | h
  · exact boxB_low h
  · exact boxB_high h
  · rw [boxB, h]; simp
theorem box_bad_all (s : ByteArray) (h : allS boxB s.data.toList = false) : boxOk s.data.toList = false := by rw [boxOk, h]; rfl
set_option maxHeartbeats 2000000 in
theorem refBox_any (s : ByteArray) (hs : s.size ≤ maxLen) (w : World) :
    Calls Try.prog 59 #[.string s] w (RetBox s.data.toList w) := by
  unfold maxLen at hs
  by_cases hpos : 0 < s.size
  · by_cases hsz : s.size ≤ 64
    · cases h0 : ((s[0].toNat : Int) == 32)
      case true =>
        have hf := Lib.hid (box_bad_0 s hpos h0)
        go_enter Try.func59, Try.ntmps59
        go_wp2_with fail
        go_ret2
        exact ⟨⟨#[]⟩, ret_box hf.out.symm, (box_no hf.out).symm, Below.refl _ _⟩
      cases h1 : (((s[s.size - 1]'(by omega)).toNat : Int) == 32)
      case true =>
        have hf := Lib.hid (box_bad_1 s hpos h1)
        go_enter Try.func59, Try.ntmps59
        go_wp2_with fail
        go_ret2
        exact ⟨⟨#[]⟩, ret_box hf.out.symm, (box_no hf.out).symm, Below.refl _ _⟩
      have hg : Hid (allS boxB s.data.toList = true → boxOk s.data.toList = true) := fun ha => box_good s hpos ha hsz h0 h1
      go_enter Try.func59, Try.ntmps59
      go_wp2_with fail
      clear h0 h1
      go_loop [4] (fun i => ∃ k : Nat, k ≤ s.size ∧ i = .int .i64 k ∧ Hid (allB boxB (s.data.toList.take k) = true)) (fun i => s.size - (intOf i).toNat)
      case atStart => exact ⟨0, Nat.zero_le _, rfl, rfl⟩
      case round =>
        obtain ⟨k, hk, rfl, hp⟩ := hrel
        by_cases hlt : k < s.size
        · go_wp2_with (go_at_call 68; refine (in_any _ _ (by decide) _).mono ?_; rintro e w' ⟨rfl, rfl⟩)
          case' roundEnd =>
            have hh : (32 ≤ (s[k].toNat : Int) ∧ (s[k].toNat : Int) ≤ 126) ∧ inL s[k].toNat [37, 42, 34, 92] = false := by assumption
            exact ⟨⟨k + 1, by omega, by go_num, quot_step s k hlt hp (by rw [boxB_mid hh.1.1 hh.1.2, hh.2]; rfl)⟩, by simp [intOf]; omega⟩
          · have hh : ((s[k].toNat : Int) < 32 ∨ 126 < (s[k].toNat : Int)) ∨ inL s[k].toNat [37, 42, 34, 92] = true := by assumption
            have hf := Lib.hid (box_bad_all s (allS_false s k hlt (boxB_bad hh)))
            go_ret2
            exact ⟨⟨#[]⟩, ret_box hf.out.symm, (box_no hf.out).symm, Below.refl _ _⟩
          · have hh : 126 < (s[k].toNat : Int) := by assumption
            have hf := Lib.hid (box_bad_all s (allS_false s k hlt (boxB_high hh)))
            go_ret2
            exact ⟨⟨#[]⟩, ret_box hf.out.symm, (box_no hf.out).symm, Below.refl _ _⟩
          · have hh : (s[k].toNat : Int) < 32 := by assumption
            have hf := Lib.hid (box_bad_all s (allS_false s k hlt (boxB_low hh)))
            go_ret2
            exact ⟨⟨#[]⟩, ret_box hf.out.symm, (box_no hf.out).symm, Below.refl _ _⟩
        · obtain rfl : k = s.size := by omega
          rw [take_all] at hp
          have hk2 := Lib.hid (hg.out (allS_true s hpos hp.out))
          go_wp2_with fail
          refine (refUpperS_any s (by unfold maxLen; omega) w).mono ?_
          rintro e w1 ⟨u, rfl, hu, hbw⟩
          cases hn : (u.toList == [73, 78, 66, 79, 88])
          · go_wp2_with fail
            go_ret2
            exact ⟨_, ret_box hk2.out.symm, box_same hk2.out hu.out hn, hbw⟩
          · go_wp2_with fail
            go_ret2
            exact ⟨_, ret_box hk2.out.symm, box_inbox hk2.out hu.out hn, hbw⟩
    · have hf := Lib.hid (box_bad_len s hsz)
      go_enter Try.func59, Try.ntmps59
      go_wp2_with fail
      go_ret2
      exact ⟨⟨#[]⟩, ret_box hf.out.symm, (box_no hf.out).symm, Below.refl _ _⟩
  · have hf : Hid (boxOk s.data.toList = false) := box_bad_all s (by rw [List.eq_nil_of_length_eq_zero (l := s.data.toList) (by rw [← size_len]; omega)]; rfl)
    go_enter Try.func59, Try.ntmps59
    go_wp2_with fail
    go_ret2
    exact ⟨⟨#[]⟩, ret_box hf.out.symm, (box_no hf.out).symm, Below.refl _ _⟩
end Go.Proofs.Ytcnebfmlelcliaa
namespace Go.Proofs.Ytcnebfmlelcliaa
set_option linter.unusedSimpArgs false
open Go.RowKit
attribute [local go_sem ↓] Go.wp_at_zero Go.wp_at_succ

section
variable {α : Type} {R : RT α}
/-- elements are laid over others -/
theorem RT.PR.lay {W : World} {g : Nat} {l : List α} {rest : List Value} (h : R.PR W g l rest) (news : List α) (i : Nat) (hi : i + news.length ≤ l.length) : R.PR (W.setCells g (i * R.K) (R.cells news)) g (l.take i ++ news ++ l.drop (i + news.length)) rest := by
  have hll : i * R.K + news.length * R.K ≤ l.length * R.K := by rw [← Nat.add_mul]; exact Nat.mul_le_mul_right _ hi
  have hln : (R.cells news).length = news.length * R.K := R.cells_len _
  unfold RT.PR
  rw [heap_setCells _ _ _ _ h (by rw [hln, List.length_append, R.cells_len]; omega), hln]
  have e1 : R.cells l = R.cells (l.take i) ++ (R.cells ((l.drop i).take news.length) ++ R.cells (l.drop (i + news.length))) := by
    rw [← R.cells_app, ← R.cells_app, ← List.drop_drop, List.take_append_drop, List.take_append_drop]
  have e2 : (R.cells (l.take i)).length = i * R.K := by rw [R.cells_len, List.length_take]; congr 1; omega
  have e2b : (R.cells ((l.drop i).take news.length)).length = news.length * R.K := by rw [R.cells_len, List.length_take, List.length_drop]; congr 1; omega
  have e3 : (R.cells l ++ rest).take (i * R.K) = R.cells (l.take i) := by
    rw [e1, List.append_assoc, List.take_append_of_le_length (by rw [e2]; exact Nat.le_refl _), List.take_of_length_le (by rw [e2]; exact Nat.le_refl _)]
  have e4 : (R.cells l ++ rest).drop (i * R.K + news.length * R.K) = R.cells (l.drop (i + news.length)) ++ rest := by
    rw [e1, ← List.append_assoc, List.append_assoc, List.drop_left' (by rw [List.length_append, e2, e2b])]
  rw [e3, e4, R.cells_app, R.cells_app]
  simp only [List.append_assoc]
theorem Zoo.lay {W0 W : World} {L : List Th} {v : Value} {l : List α} (h : Zoo W0 W L) (i : Nat) (hi : L[i]? = some (R.row v l)) (news : List α) (k : Nat) (hk : k + news.length ≤ l.length) (hl : 0 < l.length) :
    ∃ g cap, v = .slice (some ⟨g, 0, none⟩) l.length cap ∧ l.length ≤ cap ∧ (∀ j r, (hj : j < l.length) → r < R.K → W.cell? ⟨g, j * R.K + r, none⟩ = (R.enc l[j])[r]?) ∧ (∀ j, W.frozen? ⟨g, j, none⟩ = false) ∧ Zoo W0 (W.setCells g (k * R.K) (R.cells news)) (L.set i (R.row v (l.take k ++ news ++ l.drop (k + news.length)))) := by
  obtain ⟨F, ⟨ho, hF⟩, hlow, hact⟩ := h.act i _ hi
  obtain ⟨g, cap, rest, rfl, hc, hg, hrow, hback⟩ := ho.row hl
  have hln : (l.take k ++ news ++ l.drop (k + news.length)).length = l.length := by simp only [List.length_append, List.length_take, List.length_drop]; omega
  have h2 := hback _ _ l.length (Nat.le_refl _) hln (hrow.lay news k hk)
  rw [List.take_of_length_le (by rw [hln]; exact Nat.le_refl _)] at h2
  have hkb : KeptB W g (W.setCells g (k * R.K) (R.cells news)) := KeptB.sets _ _ (KeptB.refl W g)
  exact ⟨g, cap, rfl, hc, fun j r hj hr => hrow.cell j r hj hr, hrow.free, hact _ F _ ⟨h2, hF⟩ (hkb.grows hF rfl)⟩
end
theorem WkOk.len {k : WkV} {m : Ml} (h : WkOk k m) : k.bs.length = m.boxes.length := by rw [← h.1, List.length_map]
theorem Zoo.lets {W0 W : World} {a b c d e f g : Th} {l l' : List Th} (h : Zoo W0 W (a :: b :: c :: d :: e :: f :: g :: l)) (hs : l'.Sublist l) : Zoo W0 W (a :: b :: c :: d :: e :: f :: g :: l') :=
  h.sub (((((((hs.cons_cons g).cons_cons f).cons_cons e).cons_cons d).cons_cons c).cons_cons b).cons_cons a)
end Go.Proofs.Ytcnebfmlelcliaa
namespace Go.Proofs.Ytcnebfmlelcliaa
set_option linter.unusedSimpArgs false
open Go.RowKit
attribute [local go_sem ↓] Go.wp_at_zero Go.wp_at_succ

theorem WkOk.get {k : WkV} {m : Ml} (h : WkOk k m) {i : Nat} (hi : i < k.bs.length) : m.boxes[i]? = some (k.bs[i].b) := by
  rw [← h.1, List.getElem?_map, List.getElem?_eq_getElem hi]; rfl
/-- the greatest number of a mailbox: the last one's -/
def mostB (l : List Lt) : Nat := match l.getLast? with
  | none => 0
  | some x => x.uid
/-- is a letter meant by a request? -/
def meantB (l : List Lt) (q : Rq) (x : Lt) : Bool := hasL q.uids (mostB l) x.uid
end Go.Proofs.Ytcnebfmlelcliaa
namespace Go.Proofs.Ytcnebfmlelcliaa
set_option linter.unusedSimpArgs false
open Go.RowKit

def setB (k : WkV) (i : Nat) (x : BxV) : WkV := { k with bs := k.bs.set i x }
def setM (m : Ml) (i : Nat) (b : Bx) : Ml := { m with boxes := m.boxes.set i b }
def addS (k : WkV) (p : Value × List (List UInt8)) : WkV := { k with S := p :: k.S }
section
variable {W0 W : World} {wb : Nat} {k : WkV} {m : Ml} {q : Rq} {y : RqV} {o : Oc} {E : List Th}
theorem WkOk.set {i : Nat} (h : WkOk k m) (x : BxV) (hx : HasL k.S x.rows) : WkOk (setB k i x) (setM m i x.b) := by
  refine ⟨?_, fun z hz => ?_⟩
  · show (k.bs.set i x).map BxV.b = m.boxes.set i x.b
    rw [List.map_set, h.1]
  · rcases List.mem_or_eq_of_mem_set hz with hz | rfl
    · exact h.2 z hz
    · exact hx
theorem WkOk.add {p : Value × List (List UInt8)} (h : WkOk k m) : WkOk (addS k p) m := ⟨h.1, fun z hz w hw => List.mem_cons_of_mem _ (h.2 z hz w hw)⟩
end
end Go.Proofs.Ytcnebfmlelcliaa
namespace Go.Proofs.Ytcnebfmlelcliaa
set_option linter.unusedSimpArgs false
open Go.RowKit

section
variable {P : Program} {ops : Array Oper} {S : World → Prop}
theorem exec_store_cells {o : Oper} {ρ : Operand → Value} (t : TypeId) (x u : Operand) (ho : o.op = .store t x u) (b off : Nat) (cs : List Value) (hx : ρ x = .pointer (some ⟨b, off, none⟩)) (hu : ρ u = .agg cs.toArray) (hsz : ∀ w, (Go.sizeOf t).run P w = .ok cs.length w) (h1 : ∀ v ∈ cs, v.oneCell' = true) (W : World) (hc : ∀ j, j < cs.length → (W.cell? ⟨b, off + j, none⟩).isSome = true) (hf : ∀ j, W.frozen? ⟨b, j, none⟩ = false) : ∃ n, (execOp ρ o).run P W = .ok n (W.setCells b off cs) ∧ n = .skip := by
  have := run_storeCells_cells (P := P) b off cs 0 W (by simpa using hc) (fun j _ => hf _) h1
  simp only [Nat.add_zero] at this
  refine ⟨_, ?_, rfl⟩
  simp [execOp, ho, Instr.storeAt, Instr.sureAddr, hx, hu, storeVar, hsz, Value.cells, this]
theorem wpList_store_cells {o : Oper} {rest : List Oper} {a : Act} {w : World} {Q : Exit → Act → World → Prop} (hgd : o.guard = none) (t : TypeId) (x u : Operand) (ho : o.op = .store t x u) (b off : Nat) (cs : List Value) (hx : a.eval x = .pointer (some ⟨b, off, none⟩)) (hu : a.eval u = .agg cs.toArray) (hsz : ∀ w, (Go.sizeOf t).run P w = .ok cs.length w) (h1 : ∀ v ∈ cs, v.oneCell' = true) (hc : ∀ j, j < cs.length → (w.cell? ⟨b, off + j, none⟩).isSome = true) (hf : ∀ j, w.frozen? ⟨b, j, none⟩ = false)
    (hK : wpList P ops Q rest (a.put o.dst undef) (w.setCells b off cs)) : wpList P ops Q (o :: rest) a w :=
  wpList_plain hgd fun K hK' => by
    obtain ⟨n, h2, rfl⟩ := exec_store_cells (P := P) (ρ := a.eval) t x u ho b off cs hx hu hsz h1 w hc hf
    unfold Oper.wp
    simp only [h2, Result.andThen]
    exact hK' _ _ hK
end
/-- all cells of a block are written -/
theorem Zoo.fillBox {W0 W : World} {L : List Th} {B : Nat} {C : List Value} {t : TypeId} (h : Zoo W0 W L) (i : Nat) (hi : L[i]? = some (boxT B C.toArray t)) (cs : List Value) (hl : cs.length = C.length) : Zoo W0 (W.setCells B 0 cs) (L.set i (boxT B cs.toArray t)) := by
  obtain ⟨F, ⟨h1, hF⟩, hlow, hact⟩ := h.act i _ hi
  have h2 := heap_setCells cs 0 C W h1 (by omega)
  rw [List.take_zero, List.nil_append, Nat.zero_add, hl, List.drop_length, List.append_nil] at h2
  have hk : KeptB W B (W.setCells B 0 cs) := KeptB.sets _ _ (KeptB.refl W B)
  exact hact _ F _ ⟨h2, hF⟩ ⟨hk.os, hk.tape, hk.output, Nat.le_of_eq hk.size.symm, fun k hk1 hn => hk.block k (fun e => hn ((hF k).2 e)), fun k hk1 => .inl hk1⟩
theorem Zoo.boxSome {W0 W : World} {L : List Th} {B : Nat} {C : List Value} {t : TypeId} (h : Zoo W0 W L) (i : Nat) (hi : L[i]? = some (boxT B C.toArray t)) : (∀ j, j < C.length → (W.cell? ⟨B, 0 + j, none⟩).isSome = true) ∧ ∀ j, W.frozen? ⟨B, j, none⟩ = false := by
  obtain ⟨h1, -⟩ := h.box i hi
  refine ⟨fun j hj => ?_, box_free h1⟩
  rw [Nat.zero_add, box_cell h1 j, List.getElem?_toArray, List.getElem?_eq_getElem hj]; rfl
end Go.Proofs.Ytcnebfmlelcliaa
namespace Go.Proofs.Ytcnebfmlelcliaa
open Go.RowKit

set_option maxRecDepth 100000 in
set_option maxHeartbeats 2000000 in
theorem refCanon_any (s : ByteArray) (hs0 : s.size ≤ maxLen) (w : World) : Calls Try.prog 70 #[.string s] w (CanonRet s.data.toList w) := by
  have hs9 := Lib.hid hs0
  clear hs0
  have kb := run_conv_one (P := Try.prog) 133 9 5 Try.underlying133 Try.underlying5 Try.underlying9
  go_enter Try.func70, Try.ntmps70
  go_wp2_with fail
  go_loopw [4] (fun vk wr => ∃ k : Nat, vk = .int .i64 k ∧ k ≤ 5 ∧ Hid (∀ j, j < k → isSys s.data.toList j = false) ∧ Hid (Below w.heap.size w wr)) (fun vk _ => 5 - (intOf vk).toNat)
  case atStart => exact ⟨0, rfl, by omega, Lib.hid (fun j h => absurd h (Nat.not_lt_zero _)), Lib.hid (Below.refl _ _)⟩
  case round =>
    obtain ⟨k, rfl, hk, hno, hb⟩ := hrel
    by_cases hk5 : k < 5
    · go_wp2_with fail
      refine (refSystem_any k hk5 wr).mono ?_
      rintro e w' ⟨rfl, rfl⟩
      go_wp2_with fail
      refine (refUpperS_any (mkB (sysL.getD k [])) (sys_le k hk5) wr).mono ?_
      rintro e w2 ⟨U1, rfl, hU1, hb1⟩
      go_wp2_with fail
      refine (refUpperS_any s hs9.out w2).mono ?_
      rintro e w3 ⟨U2, rfl, hU2, hb2⟩
      have hq' : (U1.toList == U2.toList) = isSys s.data.toList k := eqS_of hU1 hU2
      have hb3 := Lib.hid ((hb.out.trans (hb1.mono hb.out.size)).trans (hb2.mono (Nat.le_trans hb.out.size hb1.size)))
      clear hb1 hb2 hU1 hU2
      cases h : isSys s.data.toList k
      · rw [h] at hq'
        have hno' : Hid (∀ j, j < k + 1 → isSys s.data.toList j = false) := Lib.hid (fun j hj => by
          rcases Nat.lt_or_ge j k with h1 | h1
          · exact hno.out j h1
          · obtain rfl : j = k := by omega
            exact h)
        replace h := Lib.hid h
        go_wp2_with fail
        go_roundw
        case rel => exact ⟨k + 1, by go_num, by omega, hno', hb3⟩
        case measure => simp [intOf]; omega
      · rw [h] at hq'
        have hc := Lib.hid (canon_sys s.data.toList k (by omega) hno.out h)
        replace h := Lib.hid h
        go_wp2_with fail
        refine (refSystem_any k hk5 w3).mono ?_
        rintro e w' ⟨rfl, rfl⟩
        go_wp2_with fail
        go_ret2
        exact canon_yes hc.out hb3.out
    · obtain rfl : k = 5 := by omega
      have hck := Lib.hid (canon_key s.data.toList hno.out)
      rw [show ((5 : Nat) : Int) = (5 : Int) from rfl]
      go_wp2_with fail
      refine (refAtom_any s hs9.out wr).mono ?_
      rintro e w2 ⟨rfl, rfl⟩
      cases ha : allS atomB s.data.toList
      · have hn : Hid (canonL s.data.toList = none) := Lib.hid (by rw [hck.out, keyB, ha]; rfl)
        clear hck
        replace ha := Lib.hid ha
        go_wp2_with fail
        go_ret2
        exact canon_no hn.out hb.out
      · by_cases hlen : s.size ≤ 32
        · have hy : Hid (canonL s.data.toList = some (lowL s.data.toList)) := Lib.hid (by rw [hck.out, keyB, ha, ← size_len, decide_eq_true hlen]; rfl)
          clear hck
          replace ha := Lib.hid ha
          go_wp2_with fail
          go_loopw [5, 6] (fun v i wr2 => ∃ (k : Nat) (o : ByteArray), k ≤ s.size ∧ o.size ≤ k ∧ i = .int .i64 k ∧ v = .string o ∧ Hid (o.data.toList = lowL (s.data.toList.take k)) ∧ Hid (Below w.heap.size w wr2)) (fun _ i _ => s.size - (intOf i).toNat)
          case atStart => exact ⟨0, _, Nat.zero_le _, Nat.zero_le _, rfl, rfl, rfl, hb⟩
          case round =>
            obtain ⟨k, o, hk2, ho, rfl, rfl, hp, hb2⟩ := hrel
            have hba : Hid (∀ ob, Below w.heap.size w (wr.alloc ob)) := Lib.hid (fun ob => hb2.out.alloc hb2.out.size ob)
            by_cases hlt : k < s.size
            · go_wp2_with fail
              · refine ⟨⟨k + 1, _, by omega, size_app1 _ ho, by go_num, rfl, lowL_step s o k hlt _ hp (lowB_ref _ (by assumption) (by assumption)), Lib.hid (hba.out _)⟩, by simp [intOf]; omega⟩
              · refine ⟨⟨k + 1, _, by omega, size_app1 _ ho, by go_num, rfl, lowL_step s o k hlt _ hp (lowB_no _ (by omega)).symm, Lib.hid (hba.out _)⟩, by simp [intOf]; omega⟩
              · refine ⟨⟨k + 1, _, by omega, size_app1 _ ho, by go_num, rfl, lowL_step s o k hlt _ hp (lowB_no _ (by omega)).symm, Lib.hid (hba.out _)⟩, by simp [intOf]; omega⟩
            · obtain rfl : k = s.size := by omega
              rw [take_all] at hp
              go_wp2_with fail
              go_ret2
              exact canon_yes (by rw [hy.out, hp.out]) hb2.out
        · have hn : Hid (canonL s.data.toList = none) := Lib.hid (by rw [hck.out, keyB, ha, ← size_len, decide_eq_false hlen]; rfl)
          clear hck
          replace ha := Lib.hid ha
          go_wp2_with fail
          go_ret2
          exact canon_no hn.out hb.out
theorem place_at (x : List UInt8) (k : Nat) (hk : k < 5) (h1 : ∀ j, j < k → (sysL.getD j [] == x) = false) (h2 : (sysL.getD k [] == x) = true) : placeL x = k := by
  have e : ∀ (l : List (List UInt8)) (k : Nat), k < l.length → (∀ j, j < k → (l.getD j [] == x) = false) → (l.getD k [] == x) = true → l.idxOf x = k := by
    intro l
    induction l with
    | nil => intro k hk; simp at hk
    | cons y r ih =>
      intro k hk h1 h2
      match k, hk, h1, h2 with
      | 0, _, _, h2 => rw [List.idxOf_cons, show (y == x) = true from h2]; rfl
      | k + 1, hk, h1, h2 =>
        rw [List.idxOf_cons, show (y == x) = false from h1 0 (by omega)]
        have := ih k (by simpa using hk) (fun j hj => h1 (j + 1) (by omega)) h2
        simpa using this
  exact e sysL k hk h1 h2
theorem place_none (x : List UInt8) (h1 : ∀ j, j < 5 → (sysL.getD j [] == x) = false) : placeL x = 5 := by
  refine List.idxOf_eq_length fun hx => ?_
  obtain ⟨j, hj, e⟩ := List.getElem_of_mem hx
  have := h1 j hj
  rw [List.getD, List.getElem?_eq_getElem hj] at this
  simp only [Option.getD_some, e, beq_self_eq_true] at this
  cases this
set_option maxHeartbeats 1000000 in
theorem refPlace_any (s : ByteArray) (w : World) : Calls Try.prog 85 #[.string s] w fun e w' => e = .returned (.int .i64 (placeL s.data.toList)) ∧ w = w' := by
  go_enter Try.func85, Try.ntmps85
  go_wp2_with fail
  go_loop [3] (fun vk => ∃ k : Nat, vk = .int .i64 k ∧ k ≤ 5 ∧ Hid (∀ j, j < k → (sysL.getD j [] == s.data.toList) = false)) (fun vk => 5 - (intOf vk).toNat)
  case atStart => exact ⟨0, rfl, by omega, Lib.hid (fun j h => absurd h (Nat.not_lt_zero _))⟩
  case round =>
    obtain ⟨k, rfl, hk, hno⟩ := hrel
    by_cases hk5 : k < 5
    · go_wp2_with fail
      refine (refSystem_any k hk5 w).mono ?_
      rintro e w' ⟨rfl, rfl⟩
      have hq : ((mkB (sysL.getD k [])).toList == s.toList) = (sysL.getD k [] == s.data.toList) := by rw [eq_str, mkB_list]
      generalize mkB (sysL.getD k []) = F at hq ⊢
      cases h : (sysL.getD k [] == s.data.toList)
      · rw [h] at hq
        have hno' : Hid (∀ j, j < k + 1 → (sysL.getD j [] == s.data.toList) = false) := Lib.hid (fun j hj => by
          rcases Nat.lt_or_ge j k with h1 | h1
          · exact hno.out j h1
          · obtain rfl : j = k := by omega
            exact h)
        replace h := Lib.hid h
        go_wp2_with fail
        exact ⟨⟨k + 1, by go_num, by omega, hno'⟩, by simp [intOf]; omega⟩
      · rw [h] at hq
        have hp := Lib.hid (place_at _ k hk5 hno.out h)
        replace h := Lib.hid h
        go_wp2_with fail
        go_ret
        exact ⟨by rw [hp.out]; rfl, rfl⟩
    · obtain rfl : k = 5 := by omega
      have hp := Lib.hid (place_none _ hno.out)
      go_wp2_with fail
      go_ret
      exact ⟨by rw [hp.out]; rfl, rfl⟩
theorem bytesLess_eq : ∀ a b : List UInt8, Op.bytesLess a b = bytesBefore a b
  | [], [] => rfl
  | _ :: _, [] => rfl
  | [], _ :: _ => rfl
  | a :: x, b :: y => by rw [Op.bytesLess, bytesBefore, bytesLess_eq x y]
set_option maxHeartbeats 1000000 in
theorem refLess_any (a b : ByteArray) (w : World) : Calls Try.prog 71 #[.string a, .string b] w fun e w' => e = .returned (.bool (flt a.data.toList b.data.toList)) ∧ w = w' := by
  have h1 := placeL_le a.data.toList
  have h2 := placeL_le b.data.toList
  have hf := Lib.hid (flt_eq a.data.toList b.data.toList)
  have hl : Op.bytesLess a.toList b.toList = bytesBefore a.data.toList b.data.toList := by rw [bytesLess_eq, ByteArray.toList_eq, ByteArray.toList_eq]
  go_enter Try.func71, Try.ntmps71
  go_wp2_with fail
  refine (refPlace_any a w).mono ?_
  rintro e w' ⟨rfl, rfl⟩
  go_wp2_with fail
  refine (refPlace_any b w).mono ?_
  rintro e w' ⟨rfl, rfl⟩
  by_cases h : placeL a.data.toList = placeL b.data.toList
  · have hr : Hid (flt a.data.toList b.data.toList = bytesBefore a.data.toList b.data.toList) := Lib.hid (by rw [hf.out, if_pos h])
    rw [h]
    clear h
    go_wp2_with fail
    go_ret
    exact ⟨by rw [hr.out]; first | rfl | (rw [hl]; rfl), rfl⟩
  · have hne : ((placeL a.data.toList : Int) != (placeL b.data.toList : Int)) = true := by rw [bne_iff_ne]; omega
    have hr : Hid (flt a.data.toList b.data.toList = decide ((placeL a.data.toList : Int) < placeL b.data.toList)) := Lib.hid (by
      rw [hf.out, if_neg h, decide_eq_decide]; omega)
    clear h
    go_wp2_with fail
    refine (refPlace_any a w).mono ?_
    rintro e w' ⟨rfl, rfl⟩
    go_wp2_with fail
    refine (refPlace_any b w).mono ?_
    rintro e w' ⟨rfl, rfl⟩
    go_wp2_with fail
    go_ret
    exact ⟨by rw [hr.out]; first | rfl | simp, rfl⟩
end Go.Proofs.Ytcnebfmlelcliaa
namespace Go.Proofs.Ytcnebfmlelcliaa
open Go.RowKit

def OwnT (w : World) (B : Nat) (v : Value) (l : List (List UInt8)) : Prop := w.ownsRow B 9 1 v l.length (l.map encStr)
theorem OwnT.nil (w : World) (B : Nat) : OwnT w B (.slice none 0 0) [] := World.ownsRow_nil _ _ _ _
theorem OwnT.rd {w : World} {B : Nat} {v : Value} {l : List (List UInt8)} (h : OwnT w B v l) : Rd w v l.length (l.map encStr) := Rd.of_own h
theorem OwnT.below {w w' : World} {B : Nat} {v : Value} {l : List (List UInt8)} (h : OwnT w B v l) (hb : Below w.heap.size w w') : OwnT w' B v l :=
  World.ownsRow.kept (row := none) h ⟨hb.os, hb.tape, hb.output, hb.size, fun k hk _ => hb.block k hk⟩ (by cases hv : v.ownBlock <;> simp)
theorem OwnT.lt {w : World} {B : Nat} {v : Value} {l : List (List UInt8)} (h : OwnT w B v l) : ∀ k, v.ownBlock = some k → B ≤ k ∧ k < w.heap.size := World.ownsRow.lt h
/-- between the rounds of With: what is written, is f there already? -/
def WithInv (f : List UInt8) (l : List (List UInt8)) (k : Nat) (done : Bool) (out : List (List UInt8)) : Prop :=
  if done then insS flt f l = out ++ l.drop k else out = l.take k ∧ insS flt f l = out ++ insS flt f (l.drop k)
theorem WithInv.start (f : List UInt8) (l : List (List UInt8)) : WithInv f l 0 false [] := ⟨rfl, rfl⟩
theorem WithInv.len {f : List UInt8} {l : List (List UInt8)} {k : Nat} {d : Bool} {out : List (List UInt8)} (h : WithInv f l k d out) : out.length ≤ l.length + 1 := by
  have hl := insS_len flt f l
  cases d
  · rw [h.1, List.length_take]; omega
  · have h' : insS flt f l = out ++ l.drop k := h
    rw [h', List.length_append] at hl; omega
theorem drop_get {l : List (List UInt8)} {k : Nat} (h : k < l.length) : l.drop k = l[k] :: l.drop (k + 1) := List.drop_eq_getElem_cons h
theorem WithInv.on {f : List UInt8} {l : List (List UInt8)} {k : Nat} {out : List (List UInt8)} (h : WithInv f l k true out) (hk : k < l.length) : WithInv f l (k + 1) true (out ++ [l[k]]) := by
  have h' : insS flt f l = out ++ l.drop k := h
  show insS flt f l = _
  rw [h', drop_get hk]; simp
theorem WithInv.skip {f : List UInt8} {l : List (List UInt8)} {k : Nat} {out : List (List UInt8)} (h : WithInv f l k false out) (hk : k < l.length) (hn : flt f l[k] = false) : WithInv f l (k + 1) false (out ++ [l[k]]) := by
  have h2 := h.2
  rw [drop_get hk, insS, if_neg (by rw [hn]; simp)] at h2
  exact ⟨by rw [h.1, List.take_succ_eq_append_getElem hk], by rw [h2]; simp⟩
theorem WithInv.put {f : List UInt8} {l : List (List UInt8)} {k : Nat} {out : List (List UInt8)} (h : WithInv f l k false out) (hk : k < l.length) (hn : flt f l[k] = true) : WithInv f l (k + 1) true (out ++ [f] ++ [l[k]]) := by
  have h2 := h.2
  rw [drop_get hk, insS, if_pos hn] at h2
  show insS flt f l = _
  rw [h2]; simp
theorem rd_cell {w : World} {b o k : Nat} {l : List (List UInt8)} (hc : ∀ i u, (l.map encStr)[i]? = some u → w.cell? ⟨b, o + i, none⟩ = some u) (hk : k < l.length) : w.cell? ⟨b, o + k, none⟩ = some (.string (mkB l[k])) := hc k _ (by rw [List.getElem?_map, List.getElem?_eq_getElem hk]; rfl)
end Go.Proofs.Ytcnebfmlelcliaa
namespace Go.Proofs.Ytcnebfmlelcliaa
open Go.RowKit

/-- texts of a size that may be -/
def Sized (l : List (List UInt8)) : Prop := ∀ x ∈ l, (mkB x).size ≤ maxLen
end Go.Proofs.Ytcnebfmlelcliaa

namespace Go.Proofs.Ytcnebfmlelcliaa
open Go.RowKit

/-- is a list a set of flags? -/
def rightB (l : List (List UInt8)) : Bool := (l.all fun f => decide (canonL f = some f)) && (decide (l.length ≤ 16) && decide (l = fset l))
theorem rightB_iff (l : List (List UInt8)) : rightB l = true ↔ (∀ f ∈ l, canonL f = some f) ∧ l.length ≤ 16 ∧ SSorted flt l := by
  rw [rightB]
  simp only [Bool.and_eq_true, List.all_eq_true, decide_eq_true_eq]
  constructor
  · rintro ⟨h1, h2, h3⟩; exact ⟨h1, h2, by rw [h3]; exact sorted_setS flt_sto l⟩
  · rintro ⟨h1, h2, h3⟩; exact ⟨h1, h2, (setS_of_sorted flt_sto l h3).symm⟩
theorem rightB_not {l : List (List UInt8)} {f : List UInt8} (hf : f ∈ l) (hn : canonL f ≠ some f) : rightB l = false := by
  cases h : rightB l
  · rfl
  · exact absurd (((rightB_iff l).1 h).1 f hf) hn
theorem ssorted_snoc {l : List (List UInt8)} {k : Nat} (hk : k + 1 < l.length) (h : SSorted flt (l.take (k + 1))) (hlt : flt l[k] l[k + 1] = true) : SSorted flt (l.take (k + 2)) := by
  rw [List.take_succ_eq_append_getElem hk]
  refine List.pairwise_append.2 ⟨h, List.pairwise_singleton _ _, fun a ha b hb => ?_⟩
  have hb' : b = l[k + 1] := by simpa using hb
  subst hb'
  rw [List.take_succ_eq_append_getElem (show k < l.length by omega)] at h ha
  rcases List.mem_append.1 ha with ha | ha
  · exact flt_sto.trans _ _ _ ((List.pairwise_append.1 h).2.2 a ha l[k] (by simp)) hlt
  · have : a = l[k] := by simpa using ha
    rw [this]; exact hlt
theorem not_ssorted {l : List (List UInt8)} {k : Nat} (hk : k + 1 < l.length) (hlt : flt l[k] l[k + 1] = false) : ¬ SSorted flt l := fun h => by
  have := List.pairwise_iff_getElem.1 h k (k + 1) (by omega) hk (by omega)
  rw [hlt] at this; cases this
set_option maxRecDepth 100000 in
set_option maxHeartbeats 2000000 in
theorem refRight_any (v : Value) (l : List (List UInt8)) (w : World) (hr : Rd w v l.length (l.map encStr)) (hl : (l.length + 2) * 16 ≤ 140737488355328) (hs : Sized l) :
    Calls Try.prog 60 #[v] w fun e w' => e = .returned (.bool (rightB l)) ∧ Hid (Below w.heap.size w w') := by
  have hr0 := Lib.hid hr
  replace hs := Lib.hid hs
  obtain ⟨ao, cap, rfl, -⟩ := hr
  go_enter Try.func60, Try.ntmps60
  go_wp2_with fail
  go_loopw [3] (fun vk wr => ∃ (k : Nat), vk = .int .i64 k ∧ k ≤ l.length ∧ Hid (∀ f ∈ l.take k, canonL f = some f) ∧ Hid (SSorted flt (l.take k)) ∧ Hid (Below w.heap.size w wr)) (fun vk _ => l.length - (intOf vk).toNat)
  case atStart => exact ⟨0, rfl, Nat.zero_le _, Lib.hid (by simp), Lib.hid List.Pairwise.nil, Lib.hid (Below.refl _ _)⟩
  case round =>
    obtain ⟨k, rfl, hk, hfix, hsrt, hb⟩ := hrel
    by_cases hlt : k < l.length
    · obtain ⟨b, o, hao, hbl, hcell⟩ := hr0.out.at_pos (by omega)
      subst hao
      have hc : ∀ wz j (hj : j < l.length), Below w.heap.size w wz → wz.cell? ⟨b, o + j, none⟩ = some (.string (mkB l[j])) := fun wz j hj hz => (hz.cell (p := ⟨b, o + j, none⟩) hbl).trans (rd_cell hcell hj)
      have hcw := hc wr k hlt hb.out
      replace hc := Lib.hid hc
      have hcan := Lib.hid (refCanon_any (mkB l[k]) (hs.out _ (List.getElem_mem hlt)) wr)
      rw [mkB_list] at hcan
      clear hcell
      obtain ⟨X, hX⟩ : ∃ X, Hid (mkB l[k] = X) := ⟨_, Lib.hid rfl⟩
      have hXl : Hid (X.data.toList = l[k]) := Lib.hid (by rw [← hX.out, mkB_list])
      rw [hX.out] at hcw hcan
      go_wp2_with fail
      refine hcan.out.mono ?_
      rintro e w2 ⟨u, ok, rfl, hu, hb2⟩
      have hb3 := Lib.hid (hb.out.trans (hb2.out.mono hb.out.size))
      have hcw2 : w2.cell? ⟨b, o + k, none⟩ = some (.string X) := by rw [← hX.out]; exact hc.out w2 k hlt hb3.out
      clear hcan hb2
      cases ok
      · have hno : Hid (rightB l = false) := Lib.hid (rightB_not (List.getElem_mem hlt) (by rw [hu.out.1]; simp))
        clear hu
        go_wp2_with fail
        go_quiet (fail)
        go_wp2_with fail
        go_ret
        exact ⟨by rw [hno.out]; rfl, Lib.hid (below_drewN hb3.out _)⟩
      · have hq : (u.toList == X.toList) = (u.data.toList == l[k]) := by rw [eq_str, hXl.out]
        have hu1 : Hid (canonL l[k] = some u.data.toList) := Lib.hid hu.out.1
        clear hu
        cases h : (u.data.toList == l[k])
        · have hno : Hid (rightB l = false) := Lib.hid (rightB_not (List.getElem_mem hlt) (by
            rw [hu1.out]; intro e; rw [Option.some.inj e] at h; simp at h))
          rw [h] at hq
          replace h := Lib.hid h
          go_wp2_with fail
          go_quiet (fail)
          go_wp2_with fail
          go_ret
          exact ⟨by rw [hno.out]; rfl, Lib.hid (below_drewN hb3.out _)⟩
        · have hn : Hid (∀ f ∈ l.take (k + 1), canonL f = some f) := Lib.hid (by
            intro f hf
            rw [List.take_succ_eq_append_getElem hlt, List.mem_append] at hf
            rcases hf with hf | hf
            · exact hfix.out f hf
            · have : f = l[k] := by simpa using hf
              rw [this, hu1.out, eq_of_beq h])
          rw [h] at hq
          replace h := Lib.hid h
          rcases Nat.eq_zero_or_pos k with hk0 | hk0
          · have hso : Hid (SSorted flt (l.take (k + 1))) := Lib.hid (by
              subst hk0
              rw [List.take_succ_eq_append_getElem hlt]; exact List.pairwise_singleton _ _)
            subst hk0
            have hl0 : (0 : Int) < (l.length : Int) := by omega
            have hcw0 : w2.cell? ⟨b, o, none⟩ = some (.string X) := hcw2
            go_wp2_with fail
            go_quiet (fail)
            go_wp2_with fail
            go_roundw
            case rel => exact ⟨1, by go_num, by omega, hn, hso, Lib.hid (below_drewN hb3.out _)⟩
            case measure => simp [intOf]; omega
          · obtain ⟨j, rfl⟩ : ∃ j, k = j + 1 := ⟨k - 1, by omega⟩
            have hjl : j < l.length := by omega
            have hcp := hc.out w2 j hjl hb3.out
            obtain ⟨Y, hY⟩ : ∃ Y, Hid (mkB l[j] = Y) := ⟨_, Lib.hid rfl⟩
            have hYl : Hid (Y.data.toList = l[j]) := Lib.hid (by rw [← hY.out, mkB_list])
            rw [hY.out] at hcp
            have hless : ∀ n, Calls Try.prog 71 #[.string Y, .string X] (w2.drewN n) fun e w' => e = .returned (.bool (flt l[j] l[j + 1])) ∧ w' = w2.drewN n := fun n => (refLess_any Y X (w2.drewN n)).mono fun _ _ ⟨h1, h2⟩ => ⟨by rw [h1, hYl.out, hXl.out], h2.symm⟩
            have hs1 : Hid (flt l[j] l[j + 1] = true → SSorted flt (l.take (j + 1 + 1))) := Lib.hid (fun h => ssorted_snoc hlt hsrt.out h)
            have hs2 : Hid (flt l[j] l[j + 1] = false → rightB l = false) := Lib.hid (fun h => by
              cases hR : rightB l
              · rfl
              · exact absurd ((rightB_iff l).1 hR).2.2 (not_ssorted hlt h))
            replace hless := Lib.hid hless
            have hjp : (0 : Int) < (j : Int) + 1 := by omega
            have hjp1 : decide ((0 : Int) < (j : Int) + 1) = true := decide_eq_true hjp
            cases hf : flt l[j] l[j + 1]
            · have hno := Lib.hid (hs2.out hf)
              rw [hf] at hless
              replace hf := Lib.hid hf
              clear hs1 hs2
              go_wp2_with fail
              go_quiet ((go_at_call 71; exact Calls.quiet_of_same (hless.out _)))
              go_wp2_with fail
              go_ret
              exact ⟨by rw [hno.out]; rfl, Lib.hid (below_drewN hb3.out _)⟩
            · have hso := Lib.hid (hs1.out hf)
              rw [hf] at hless
              replace hf := Lib.hid hf
              clear hs1 hs2
              go_wp2_with fail
              go_quiet ((go_at_call 71; exact Calls.quiet_of_same (hless.out _)))
              go_wp2_with fail
              go_roundw
              case rel => exact ⟨j + 1 + 1, by go_num, by omega, hn, hso, Lib.hid (below_drewN hb3.out _)⟩
              case measure => simp [intOf]; omega
    · have hRR : Hid (rightB l = decide ((l.length : Int) ≤ 16)) := Lib.hid (by
        rw [show decide ((l.length : Int) ≤ 16) = decide (l.length ≤ 16) by rw [decide_eq_decide]; omega]
        have h1 := hfix.out
        have h2 := hsrt.out
        rw [List.take_of_length_le (by omega)] at h1 h2
        by_cases h16 : l.length ≤ 16
        · rw [decide_eq_true h16]; exact (rightB_iff l).2 ⟨h1, h16, h2⟩
        · rw [decide_eq_false h16, rightB, decide_eq_false h16]; simp)
      go_wp2_with fail
      go_ret
      exact ⟨by rw [hRR.out]; rfl, hb⟩
end Go.Proofs.Ytcnebfmlelcliaa




namespace Go.Proofs.Ytcnebfmlelcliaa
open Go.RowKit

/-- what is put together ahead of the set -/
def chIn (l : List (List UInt8)) (how : Int) (by_ : List (List UInt8)) : List (List UInt8) := (if how = 0 then [] else if how = 1 then l else l.filter fun x => !decide (x ∈ by_)) ++ (if how = 2 then [] else by_)
def chOk (l : List (List UInt8)) (how : Int) (by_ : List (List UInt8)) : Bool := rightB l && (rightB by_ && (decide (0 ≤ how) && decide (how < 3)))
def chCode (l : List (List UInt8)) (how : Int) (by_ : List (List UInt8)) : Nat := if chOk l how by_ then (if 16 < (fset (chIn l how by_)).length then 7 else 0) else 1
def chSet (l : List (List UInt8)) (how : Int) (by_ : List (List UInt8)) : List (List UInt8) := if chOk l how by_ then (if 16 < (fset (chIn l how by_)).length then [] else fset (chIn l how by_)) else []
theorem right_16 {l : List (List UInt8)} (h : rightB l = true) : l.length ≤ 16 := ((rightB_iff l).1 h).2.1
end Go.Proofs.Ytcnebfmlelcliaa

namespace Go.Proofs.Ytcnebfmlelcliaa
set_option linter.unusedSimpArgs false
open Go.RowKit
attribute [local go_sem ↓] Go.wp_at_zero Go.wp_at_succ

theorem rq_one (q : Rq) (y : RqV) : ∀ v ∈ rqCells q y, v.oneCell' = true := fun v hv => by
  simp only [rqCells, List.mem_cons, List.not_mem_nil, or_false] at hv
  rcases hv with rfl | rfl | rfl | rfl | rfl | rfl | rfl | rfl | rfl | rfl | rfl | rfl | rfl | rfl | rfl | rfl | rfl <;> rfl
/-- what a request may have -/
structure RqSz (q : Rq) : Prop where
  fl : q.flags.length ≤ 100000
  sz : Sized q.flags
  ul : q.uids.length ≤ 100000
def newLt (b : Bx) (q : Rq) : Lt := ⟨b.next, q.flags, b.high + 1, q.hash, q.size⟩
def appended (b : Bx) (q : Rq) : Bx := { b with next := b.next + 1, high := b.high + 1, letters := b.letters ++ [newLt b q] }
end Go.Proofs.Ytcnebfmlelcliaa


namespace Go.Proofs.Ytcnebfmlelcliaa
set_option linter.unusedSimpArgs false
open Go.RowKit

/-- letters under new numbers -/
def copyL (h : Nat) : Nat → List Lt → List Lt
  | _, [] => []
  | n, x :: r => { x with uid := n, mod := h } :: copyL h (n + 1) r
/-- a mailbox with letters copied to it -/
def copied (d : Bx) (l : List Lt) : Bx := { d with next := d.next + l.length, high := d.high + 1, letters := d.letters ++ copyL (d.high + 1) d.next l }
theorem setM_get {m : Ml} {i : Nat} (hi : i < m.boxes.length) (b : Bx) : (setM m i b).boxes[i]? = some b := by unfold setM; dsimp only; rw [List.getElem?_set_self hi]
theorem setM_len (m : Ml) (i : Nat) (b : Bx) : (setM m i b).boxes.length = m.boxes.length := List.length_set
section
variable {W0 W : World} {wb : Nat} {k : WkV} {m : Ml} {q : Rq} {y : RqV} {o : Oc}
end
/-- how far a copy is -/
structure CpSt (k0 : WkV) (m : Ml) (t : Nat) (d : Bx) (out : List LtV) (k : WkV) (j : Nat) : Prop where
  ok : WkOk k (setM m t (copied d ((out.take j).map LtV.x)))
  ab : k.ab = k0.ab
  has : HasL k.S out
  le : j ≤ out.length
theorem CpSt.at_ {k0 : WkV} {m : Ml} {t : Nat} {d : Bx} {out : List LtV} {k : WkV} {j : Nat} (h : CpSt k0 m t d out k j) (ht : t < m.boxes.length) : ∃ hl : t < k.bs.length, k.bs[t].b = copied d ((out.take j).map LtV.x) := by
  have hl : t < k.bs.length := by rw [h.ok.len, setM_len]; exact ht
  refine ⟨hl, ?_⟩
  have h1 := h.ok.get hl
  rw [setM_get ht] at h1
  exact (Option.some.inj h1).symm
end Go.Proofs.Ytcnebfmlelcliaa
namespace Go.Proofs.Ytcnebfmlelcliaa
open Go.RowKit Go.Lib Go.Sort

theorem HoldsSl.mono {B B' : Nat} {w : World} {v : Value} {l : List (List UInt8)} (h : HoldsSl B w v l) (hb : B' ≤ B) : HoldsSl B' w v l := by
  obtain ⟨ao, cap, hv, h⟩ := h
  refine ⟨ao, cap, hv, h.imp id ?_⟩
  rintro ⟨g, ha, hg, r⟩
  exact ⟨g, ha, Nat.le_trans hb hg, r⟩
end Go.Proofs.Ytcnebfmlelcliaa
namespace Go.Proofs.Ytcnebfmlelcliaa
set_option linter.unusedSimpArgs false
open Go.RowKit

/-- a letter that is meant, and done -/
def stDone (ls : List Lt) (q : Rq) (x : Lt) : Bool := meantB ls q x && !(q.has && decide (q.since < x.mod))
def stTurns (ls : List Lt) (q : Rq) (x : Lt) : Bool := stDone ls q x && !decide (chSet x.flags q.how q.flags = x.flags)
def stFails (ls : List Lt) (q : Rq) (x : Lt) : Bool := stDone ls q x && !decide (chCode x.flags q.how q.flags = 0)
def stNew (ls : List Lt) (q : Rq) (h : Nat) (x : Lt) : Lt := if stTurns ls q x then { x with flags := chSet x.flags q.how q.flags, mod := h + 1 } else x
/-- how far a store is -/
structure StSt (ls : List Lt) (q : Rq) (h : Nat) (S0 S : List (Value × List (List UInt8))) (nx : List LtV) (ch : Bool) (j : Nat) : Prop where
  now : nx.map LtV.x = (ls.take j).map (stNew ls q h) ++ ls.drop j
  has : HasL S nx
  sub : ∀ p ∈ S0, p ∈ S
  ch : ch = (ls.take j).any (stTurns ls q)
  good : (ls.take j).any (stFails ls q) = false
section
variable {ls : List Lt} {q : Rq} {h : Nat} {S0 S : List (Value × List (List UInt8))} {nx : List LtV} {ch : Bool} {j : Nat}
theorem StSt.len (s : StSt ls q h S0 S nx ch j) : nx.length = ls.length := by
  have := congrArg List.length s.now
  rw [List.length_map, List.length_append, List.length_map, List.length_take, List.length_drop] at this
  omega
theorem StSt.at_ (s : StSt ls q h S0 S nx ch j) (hj : j < ls.length) : (nx[j]'(by rw [s.len]; exact hj)).x = ls[j] := by
  have h1 : (nx.map LtV.x)[j]? = ls[j]? := by
    rw [s.now, List.getElem?_append_right (by rw [List.length_map, List.length_take]; omega), List.length_map, List.length_take, List.getElem?_drop]
    congr 1; omega
  rw [List.getElem?_map, List.getElem?_eq_getElem (by rw [s.len]; exact hj), List.getElem?_eq_getElem hj] at h1
  exact Option.some.inj h1
theorem StSt.start {nx : List LtV} (h1 : nx.map LtV.x = ls) (h2 : HasL S0 nx) : StSt ls q h S0 S0 nx false 0 := ⟨by simpa using h1, h2, fun _ hp => hp, rfl, rfl⟩
theorem StSt.skip (s : StSt ls q h S0 S nx ch j) (hj : j < ls.length) (hd : stTurns ls q ls[j] = false) (hf : stFails ls q ls[j] = false) : StSt ls q h S0 S nx ch (j + 1) := by
  refine ⟨?_, s.has, s.sub, ?_, ?_⟩
  · rw [s.now, List.take_succ_eq_append_getElem hj, List.map_append, List.drop_eq_getElem_cons hj, List.append_assoc]
    simp [stNew, hd]
  · rw [List.take_succ_eq_append_getElem hj, List.any_append, ← s.ch]; simp [hd]
  · rw [List.take_succ_eq_append_getElem hj, List.any_append, s.good]; simp [hf]
theorem StSt.turn (s : StSt ls q h S0 S nx ch j) (hj : j < ls.length) (hd : stTurns ls q ls[j] = true) (hf : stFails ls q ls[j] = false) (z : LtV) (hz : z.x = { ls[j] with flags := chSet ls[j].flags q.how q.flags, mod := h + 1 }) : StSt ls q h S0 ((z.v, z.x.flags) :: S) (nx.set j z) true (j + 1) := by
  refine ⟨?_, fun w hw => ?_, fun p hp => List.mem_cons_of_mem _ (s.sub p hp), ?_, ?_⟩
  · rw [List.map_set, s.now, hz, List.take_succ_eq_append_getElem hj, List.map_append, List.drop_eq_getElem_cons hj, List.append_assoc, List.set_append_right _ _ (by rw [List.length_map, List.length_take]; omega), List.length_map, List.length_take, show j - min j ls.length = 0 from by omega, List.set_cons_zero]
    simp [stNew, hd]
  · rcases List.mem_or_eq_of_mem_set hw with hw | rfl
    · exact List.mem_cons_of_mem _ (s.has w hw)
    · exact List.mem_cons_self ..
  · rw [List.take_succ_eq_append_getElem hj, List.any_append]; simp [hd]
  · rw [List.take_succ_eq_append_getElem hj, List.any_append, s.good]; simp [hf]
theorem StSt.more (s : StSt ls q h S0 S nx ch j) (p : Value × List (List UInt8)) : StSt ls q h S0 (p :: S) nx ch j :=
  ⟨s.now, fun w hw => List.mem_cons_of_mem _ (s.has w hw), fun p hp => List.mem_cons_of_mem _ (s.sub p hp), s.ch, s.good⟩
end
end Go.Proofs.Ytcnebfmlelcliaa



namespace Go.Proofs.Ytcnebfmlelcliaa
set_option linter.unusedSimpArgs false
open Go.RowKit Go.Maps Go.WideMaps Go.Sort Go.Lib
attribute [local go_sem ↓] Go.wp_at_zero Go.wp_at_succ

/-- a home whose node is no great number -/
abbrev BHm := {h : Hm // 0 ≤ h.node ∧ h.node ≤ 1000000}
instance : Inhabited BHm := ⟨⟨⟨0, 0, 0⟩, by decide⟩⟩
end Go.Proofs.Ytcnebfmlelcliaa

namespace Go.Proofs.Ytcnebfmlelcliaa
set_option linter.unusedSimpArgs false
open Go.RowKit Go.Maps Go.WideMaps Go.Sort Go.Lib
attribute [local go_sem ↓] Go.wp_at_zero Go.wp_at_succ

instance : Inhabited BxV := ⟨⟨⟨#[]⟩, 0, 0, 0, [], none, 0⟩⟩
/-- mailboxes by their names -/
def bxltB (a b : Bx) : Bool := bytesBefore a.name.data.toList b.name.data.toList
end Go.Proofs.Ytcnebfmlelcliaa

namespace Go.Proofs.Ytcnebfmlelcliaa
set_option linter.unusedSimpArgs false
open Go.RowKit

def newBx : BxV := ⟨⟨#[73, 78, 66, 79, 88]⟩, 1, 1, 1, [], none, 0⟩
def newM : Ml := ⟨[newBx.b], 2, [], [], 1, 0⟩
theorem new_in (W : World) : MlIn (W.alloc (.cells (bxT.enc newBx).toArray 28)) (mlVal (.slice (some ⟨W.heap.size, 0, none⟩) 1 1) 2 (.slice none 0 0) (.slice none 0 0) 1 0) newM :=
  ⟨_, _, _, [newBx], rfl, rfl, ⟨(RT.Own.one bxT W newBx _ rfl).rd, fun y hy => by
    simp only [List.mem_singleton] at hy
    subst hy
    exact ⟨(RT.Own.nil ltT _).rd, fun z hz => by cases hz⟩⟩, (RT.Own.nil hmT _).rd, (RT.Own.nil stT _).rd⟩
end Go.Proofs.Ytcnebfmlelcliaa
namespace Go.Proofs.Ytcnebfmlelcliaa
set_option linter.unusedSimpArgs false
open Go.RowKit

def bx0 : BxV := ⟨⟨#[]⟩, 0, 0, 0, [], none, 0⟩
/-- the mailbox of a name, or none -/
def findM (m : Ml) (name : ByteArray) : Option Bx := m.boxes.find? (fun x => x.name.toList == name.toList)
theorem findIdx_find {α : Type} (p : α → Bool) (l : List α) : (idxI p l = -1 ∧ l.find? p = none) ∨ ∃ (i : Nat) (hi : i < l.length), idxI p l = (i : Int) ∧ l.find? p = some l[i] := by
  unfold idxI
  cases h : l.findIdx? p with
  | none => exact .inl ⟨rfl, List.find?_eq_none.2 (fun x hx => by rw [List.findIdx?_eq_none_iff.1 h x hx]; simp)⟩
  | some i =>
    obtain ⟨hi, h1, h2⟩ := List.findIdx?_eq_some_iff_getElem.1 h
    refine .inr ⟨i, hi, rfl, ?_⟩
    rw [List.find?_eq_some_iff_getElem]
    exact ⟨h1, i, hi, rfl, fun j hj => by have := h2 j hj; simpa using this⟩
/-- two results, the first in a block of its own -/
theorem results_cell_tmp_row {fn : Func} {p u : Tmp} {ty t : TypeId} (h : fn.results = #[.cell p ty, .tmp u]) (tmps : Array Value) (w : World) (B : Nat) (C : List Value) (hp : tmps.getD p undef = .pointer (some ⟨B, 0, none⟩)) (hb : w.heap[B]? = some (.cells C.toArray t (0, 0))) (hagg : ∀ w, (isAgg ty).run Try.prog w = .ok true w) (hsz : ∀ w, (Go.sizeOf ty).run Try.prog w = .ok C.length w) : (results fn tmps).run Try.prog w = .ok (.tuple #[.agg C.toArray, tmps.getD u undef]) w := by
  rw [results_cell_tmp h, hp]
  have := run_loadCells_list (P := Try.prog) w ⟨B, 0, none⟩ C (fun j v hj => by rw [Addr.add_lit, Nat.zero_add, box_cell hb j]; simpa using hj)
  simp [asAddr, loadVar, hagg, hsz, this, Result.andThen]
end Go.Proofs.Ytcnebfmlelcliaa
namespace Go.Proofs.Ytcnebfmlelcliaa
set_option linter.unusedSimpArgs false
open Go.RowKit
attribute [local go_sem ↓] Go.wp_at_zero Go.wp_at_succ

/-- what a state must be that a node may open a seat of it -/
structure HomesOk (m : Ml) : Prop where
  sorted : m.homes.Pairwise (fun x y => x.node < y.node)
  small : ∀ x ∈ m.homes, 0 ≤ x.node ∧ x.node ≤ 1000000
def hm0L : List Value := [.int .i64 0, .int .u64 0, .int .u64 0]
end Go.Proofs.Ytcnebfmlelcliaa
namespace Go.Proofs.Ytcnebfmlelcliaa
set_option linter.unusedSimpArgs false
open Go.RowKit
attribute [local go_sem ↓] Go.wp_at_zero Go.wp_at_succ

def seatPut (m : Ml) (i : Nat) (n : Nat) : Ml := { m with seats := m.seats.modify i (fun x => { x with last := n }) }
structure ApSt (m : Ml) : Prop where
  sz : Sized1 m
  nb : m.boxes.length ≤ 500
  nh : m.homes.length ≤ 100
  hm : HomesOk m
  nx : ∀ b ∈ m.boxes, b.next ≤ 4294967296
  hi : ∀ b ∈ m.boxes, b.high ≤ 9223372036854775807
  fs : ∀ b ∈ m.boxes, ∀ x ∈ b.letters, Sized x.flags
  so : m.boxes.Pairwise (fun x y => bxltB x y = true)
  sw : m.sweeps ≤ 9223372036854775807
theorem ApSt.put {m : Ml} (h : ApSt m) (i n : Nat) : ApSt (seatPut m i n) := ⟨⟨h.sz.boxes, h.sz.homes, by show (m.seats.modify i _).length ≤ 1000; rw [List.length_modify]; exact h.sz.seats, h.sz.letters, h.sz.flags⟩, h.nb, h.nh, ⟨h.hm.sorted, h.hm.small⟩, h.nx, h.hi, h.fs, h.so, h.sw⟩
structure RqOk (q : Rq) : Prop where
  sz : RqSz q
  box : q.box.size ≤ maxLen
/-- two results, each in a block of its own -/
theorem results_cells2 {fn : Func} {p u : Tmp} {ty ty2 t t2 : TypeId} (h : fn.results = #[.cell p ty, .cell u ty2]) (tmps : Array Value) (w : World) (B B2 : Nat) (C C2 : List Value) (hp : tmps.getD p undef = .pointer (some ⟨B, 0, none⟩)) (hu : tmps.getD u undef = .pointer (some ⟨B2, 0, none⟩)) (hb : w.heap[B]? = some (.cells C.toArray t (0, 0))) (hb2 : w.heap[B2]? = some (.cells C2.toArray t2 (0, 0)))
    (hagg : ∀ w, (isAgg ty).run Try.prog w = .ok true w) (hsz : ∀ w, (Go.sizeOf ty).run Try.prog w = .ok C.length w) (hagg2 : ∀ w, (isAgg ty2).run Try.prog w = .ok true w) (hsz2 : ∀ w, (Go.sizeOf ty2).run Try.prog w = .ok C2.length w) : (results fn tmps).run Try.prog w = .ok (.tuple #[.agg C.toArray, .agg C2.toArray]) w := by
  have h1 := run_loadCells_list (P := Try.prog) w ⟨B, 0, none⟩ C (fun j v hj => by rw [Addr.add_lit, Nat.zero_add, box_cell hb j]; simpa using hj)
  have h2 := run_loadCells_list (P := Try.prog) w ⟨B2, 0, none⟩ C2 (fun j v hj => by rw [Addr.add_lit, Nat.zero_add, box_cell hb2 j]; simpa using hj)
  rw [Array.getD_eq_getD_getElem?] at hp hu
  simp only [results, h]
  simp [Sem.run_bind, Result.andThen, hp, hu, asAddr, loadVar, hagg, hsz, h1, hagg2, hsz2, h2]
/-- the things stand in a world whose elder blocks have turned -/
theorem Zoo.rebase {Wb W0 W W' : World} {L : List Th} (h : Zoo W0 W L) (hB : Below Wb.heap.size Wb W') (hs : Wb.heap.size ≤ W0.heap.size) (hk : ∀ k, W0.heap.size ≤ k → W'.heap[k]? = W.heap[k]?) : Zoo Wb W' L := by
  obtain ⟨h0, P, h1, h2⟩ := h
  exact ⟨hB, P, h1, ⟨fun x hx => x.1.kept _ _ _ (h2.holds x hx) (fun k hF => hk k (h2.low x hx k hF)), fun x hx k hF => Nat.le_trans hs (h2.low x hx k hF), h2.apart⟩⟩
def OcIn (W : World) (v : Value) (o : Oc) : Prop := ∃ aU cU aM cM, v = .agg #[.int .i64 o.code, .int .u64 o.session, .int .u64 o.validity, .slice aU o.uids.length cU, .slice aM o.mods.length cM] ∧ Rd W (.slice aU o.uids.length cU) o.uids.length (u64T.cells o.uids) ∧ Rd W (.slice aM o.mods.length cM) o.mods.length (u64T.cells o.mods)
theorem OcIn.below {W W' : World} {v : Value} {o : Oc} (h : OcIn W v o) (hb : Below W.heap.size W W') : OcIn W' v o := by
  obtain ⟨aU, cU, aM, cM, h1, h2, h3⟩ := h
  exact ⟨aU, cU, aM, cM, h1, h2.below hb, h3.below hb⟩
/-- P holds of w, and of whatever keeps the blocks that count -/
def Stay (ok : Nat → Prop) (w : World) (P : World → Prop) : Prop := ∀ w' : World, (∀ k, ok k → k < w.heap.size → w'.heap[k]? = w.heap[k]?) → P w'
theorem Stay.now {ok : Nat → Prop} {w : World} {P : World → Prop} (h : Stay ok w P) : P w := h w (fun _ _ _ => rfl)
theorem Stay.on {ok : Nat → Prop} {w w' : World} {P : World → Prop} (h : Stay ok w P) (hs : w.heap.size ≤ w'.heap.size) (hw : ∀ k, ok k → k < w.heap.size → w'.heap[k]? = w.heap[k]?) : Stay ok w' P :=
  fun w2 h2 => h w2 (fun k hk hl => (h2 k hk (by omega)).trans (hw k hk hl))
theorem Stay.below {ok : Nat → Prop} {w w' : World} {P : World → Prop} (h : Stay ok w P) (hb : Below w.heap.size w w') : Stay ok w' P := h.on hb.size (fun k _ hl => hb.block k hl)
theorem Stay.weak {ok ok2 : Nat → Prop} {w : World} {P : World → Prop} (h : Stay ok w P) (hi : ∀ k, k < w.heap.size → ok k → ok2 k) : Stay ok2 w P :=
  fun w2 h2 => h w2 (fun k hk hl => h2 k (hi k hl hk) hl)
theorem Stay.mono {ok : Nat → Prop} {w : World} {P Q : World → Prop} (h : Stay ok w P) (hi : ∀ w', P w' → Q w') : Stay ok w Q := fun w2 h2 => hi w2 (h w2 h2)
/-- what lies in things that are new stays where they stay -/
theorem Zoo.stay {W1 w wF : World} {L : List Th} {P : World → Prop} (hz : Zoo W1 w L) (hh : ∀ j, W1.heap.size ≤ j → wF.heap[j]? = w.heap[j]?) (hP : ∀ W0 w', Zoo W0 w' L → P w') (hB : ∀ a b, P a → Below a.heap.size a b → P b) : Stay (fun j => W1.heap.size ≤ j) wF P := by
  intro w' hw'
  have h1 : Zoo { w' with heap := #[] } { w' with heap := w'.heap.extract 0 wF.heap.size } L := hz.rebase ⟨rfl, rfl, rfl, by simp, fun k hk => by simp at hk⟩ (by simp) (fun k hk => by
    rw [← hh k hk]
    rcases Nat.lt_or_ge k wF.heap.size with h | h
    · rw [← hw' k hk h, Array.getElem?_extract]
      simp [h]
      omega
    · rw [Array.getElem?_eq_none h, Array.getElem?_eq_none]
      simp only [Array.size_extract]
      omega)
  refine hB _ _ (hP _ _ h1) ⟨rfl, rfl, rfl, by simp only [Array.size_extract]; omega, fun k hk => ?_⟩
  simp only [Array.size_extract] at hk
  show w'.heap[k]? = (w'.heap.extract 0 wF.heap.size)[k]?
  rw [Array.getElem?_extract]
  simp only [Nat.zero_add]
  rw [if_pos (by omega)]
end Go.Proofs.Ytcnebfmlelcliaa
namespace Go.Proofs.Ytcnebfmlelcliaa
set_option linter.unusedSimpArgs false
open Go.RowKit
attribute [local go_sem ↓] Go.wp_at_zero Go.wp_at_succ

def z6 : List Value := [.slice none 0 0, .int .u64 0, .slice none 0 0, .slice none 0 0, .int .u64 0, .int .u64 0]
def z5 : List Value := [.int .i64 0, .int .u64 0, .int .u64 0, .slice none 0 0, .slice none 0 0]
theorem boxSome {w : World} {B : Nat} {C : List Value} {t : TypeId} (h : w.heap[B]? = some (.cells C.toArray t (0, 0))) : (∀ j, j < C.length → (w.cell? ⟨B, 0 + j, none⟩).isSome = true) ∧ ∀ j, w.frozen? ⟨B, j, none⟩ = false := by
  refine ⟨fun j hj => ?_, box_free h⟩
  rw [Nat.zero_add, box_cell h j, List.getElem?_toArray, List.getElem?_eq_getElem hj]; rfl
end Go.Proofs.Ytcnebfmlelcliaa
