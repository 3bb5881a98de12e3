/- mail's letterRight, asked about a letter that may be: walked. nothing of its own nothing of its own The document's answer whether homes and seats may be: walked. (written by tools/gen_MmN.py) The document's answer which states are right: walked. (written by tools/gen_MmO.py) nothing of its own SameLetter: walked. SameBox, asked about two mailboxes that are the same: walked. A region that draws its order, where one operation of the head turns the condition. mail's boxRight, asked about a mailbox that may be: walked. (written by tools/gen_MnE.py) -/
import Derived.Test.YtpkaoiadjffjiaaGreatB05
import Derived.Test.YtpkaoiadjffjiaaGreatB01
namespace Go.Proofs.YtpkaoiadjffjiaaGreat
set_option linter.unusedSimpArgs false
open Go.RowKit
attribute [local go_sem ↓] Go.wp_at_zero Go.wp_at_succ

set_option maxRecDepth 100000 in
set_option maxHeartbeats 16000000 in
theorem letterRight_yes {W : World} (Z : LtV) (X : BxV) (hp : LetP Z.x X.b) (hf : FlIn W Z.v Z.x.flags) :
    Calls Tryz.prog 57 #[.agg #[.int .u64 Z.x.uid, .slice Z.a Z.x.flags.length Z.c, .int .u64 Z.x.mod, .string Z.x.hash, .int .u64 Z.x.size], .agg #[.string X.name, .int .u64 X.validity, .int .u64 X.next, .int .u64 X.high, .slice X.a X.rows.length X.c]] W fun e w' => e = .returned (.bool true) ∧ Hid (Below W.heap.size W w') := by
  obtain ⟨⟨uid, flags, mod, hash, size⟩, a, c⟩ := Z
  obtain ⟨nm, va, nx, hg, rows, xa, xc⟩ := X
  have p1 : (0 : Int) < (uid : Int) := by have := hp.u1; dsimp only at this; omega
  have p2 : (uid : Int) < (nx : Int) := by have := hp.u2; dsimp only [BxV.b] at this; omega
  have p3 : (0 : Int) < (mod : Int) := by have := hp.m1; dsimp only at this; omega
  have p4 : (mod : Int) ≤ (hg : Int) := by have := hp.m2; dsimp only [BxV.b] at this; omega
  have p5 : ((hash.size : Int) == 32) = true := by have h := hp.hs; dsimp only at h; rw [h]; rfl
  have p6 : (size : Int) ≤ 4096 := by have := hp.sz; dsimp only at this; omega
  have hfl : rightB flags = true := hp.fl
  have hz2 := ((Zoo.nil W).newBox [.int .u64 uid, .slice a flags.length c, .int .u64 mod, .string hash, .int .u64 size].toArray 45).newBox [.string nm, .int .u64 va, .int .u64 nx, .int .u64 hg, .slice xa rows.length xc].toArray 40
  have hf0 : ∀ w', Below W.heap.size W w' → FlIn w' (.slice a flags.length c) flags := fun w' h => hf.below h
  generalize hMB : W.heap.size = MB at hz2
  generalize hRB : (W.alloc (.cells [.int .u64 uid, .slice a flags.length c, .int .u64 mod, .string hash, .int .u64 size].toArray 45)).heap.size = RB at hz2
  generalize hWb : ((W.alloc (.cells [.int .u64 uid, .slice a flags.length c, .int .u64 mod, .string hash, .int .u64 size].toArray 45)).alloc (.cells [.string nm, .int .u64 va, .int .u64 nx, .int .u64 hg, .slice xa rows.length xc].toArray 40)) = Wb at hz2
  have hright : Hid (Calls Tryz.prog 69 #[.slice a flags.length c] Wb fun e w' => e = .returned (.bool true) ∧ Hid (Below Wb.heap.size Wb w')) := Lib.hid (by
    have h := right_any (.slice a flags.length c) flags Wb (hf0 Wb hz2.bel) (by have := right_16 hfl; omega) (right_sized hfl)
    rw [hfl] at h
    exact h)
  obtain ⟨hbX, -⟩ := hz2.box 1 rfl
  have x0 : Wb.cell? ⟨MB, 0, none⟩ = some (.int .u64 uid) := box_cell hbX 0
  have x1 : Wb.cell? ⟨MB, 1, none⟩ = some (.slice a flags.length c) := box_cell hbX 1
  obtain ⟨hbY, -⟩ := hz2.box 0 rfl
  have y2 : Wb.cell? ⟨RB, 2, none⟩ = some (.int .u64 nx) := box_cell hbY 2
  clear hbX hbY hf hp hf0 hfl
  replace hz2 := Lib.hid hz2
  show Calls Tryz.prog 57 #[.agg #[.int .u64 uid, .slice a flags.length c, .int .u64 mod, .string hash, .int .u64 size], .agg #[.string nm, .int .u64 va, .int .u64 nx, .int .u64 hg, .slice xa rows.length xc]] W _
  go_enter Tryz.func57, Tryz.ntmps57
  go_upto_region 1 with fail
  clear hWb hRB
  go_wp2_with (go_at_call 69; refine hright.out.mono ?_; rintro e w3 ⟨rfl, hb3⟩; clear x0 x1 y2; refine Hid.out ?_)
  have hz3 := Lib.hid (hz2.out.below hb3.out)
  obtain ⟨hbX, -⟩ := hz3.out.box 1 rfl
  have x2 : w3.cell? ⟨MB, 2, none⟩ = some (.int .u64 mod) := box_cell hbX 2
  have x3 : w3.cell? ⟨MB, 3, none⟩ = some (.string hash) := box_cell hbX 3
  have x4 : w3.cell? ⟨MB, 4, none⟩ = some (.int .u64 size) := box_cell hbX 4
  obtain ⟨hbY, -⟩ := hz3.out.box 0 rfl
  have y3 : w3.cell? ⟨RB, 3, none⟩ = some (.int .u64 hg) := box_cell hbY 3
  have hbF := Lib.hid hz3.out.bel
  clear hbX hbY hright hz2
  refine Lib.hid ?_
  go_wp2_with fail
  go_ret
  first | exact ⟨rfl, hbF⟩ | (rw [← hMB]; exact ⟨rfl, hbF⟩)
end Go.Proofs.YtpkaoiadjffjiaaGreat


namespace Go.Proofs.YtpkaoiadjffjiaaGreat
set_option linter.unusedSimpArgs false
open Go.RowKit
attribute [local go_sem ↓] Go.wp_at_zero Go.wp_at_succ

/-- homes that rise so far -/
def HUp (l : List Hm) (j : Nat) (nd : Int) : Prop := (∀ x ∈ l.take j, HomeP x) ∧ (l.take j).Pairwise (fun x y => x.node < y.node) ∧ (∀ x ∈ l.take j, x.node ≤ nd) ∧ 0 ≤ nd ∧ (nd = 0 ∨ ∃ (k : Nat) (h : k < l.length), k < j ∧ l[k].node = nd)
theorem HUp.step {l : List Hm} {j : Nat} {nd : Int} (h : HUp l j nd) (hj : j < l.length) (hp : HomeP l[j]) (hl : nd < l[j].node) : HUp l (j + 1) l[j].node := by
  unfold HUp
  rw [List.take_succ_eq_append_getElem hj]
  refine ⟨fun x hx => ?_, ?_, fun x hx => ?_, by have := h.2.2.2.1; omega, .inr ⟨j, hj, by omega, rfl⟩⟩
  · rcases List.mem_append.1 hx with hx | hx
    · exact h.1 x hx
    · rw [List.mem_singleton.1 hx]; exact hp
  · refine List.pairwise_append.2 ⟨h.2.1, by simp, fun x hx y hy => ?_⟩
    rw [List.mem_singleton.1 hy]
    have := h.2.2.1 x hx
    omega
  · rcases List.mem_append.1 hx with hx | hx
    · have := h.2.2.1 x hx; omega
    · rw [List.mem_singleton.1 hx]; exact Int.le_refl _
theorem HUp.need {l : List Hm} {j : Nat} {nd : Int} (h : HUp l j nd) (hj : j < l.length) (h1 : ∀ x ∈ l, HomeP x) (h2 : l.Pairwise (fun x y => x.node < y.node)) : nd < l[j].node := by
  rcases h.2.2.2.2 with h3 | ⟨k, hk, hkj, h3⟩
  · have := (h1 _ (List.getElem_mem hj)).n1; omega
  · have := List.pairwise_iff_getElem.1 h2 k j hk hj hkj; omega
/-- seats that rise so far -/
def SUp (m : Ml) (l : List St) (j : Nat) (last : Nat) : Prop := (∀ x ∈ l.take j, SeatP m x) ∧ (l.take j).Pairwise (fun x y => x.session < y.session) ∧ (l.take j).Pairwise (fun x y => ¬ (x.node = y.node ∧ x.try_ = y.try_)) ∧ (∀ x ∈ l.take j, x.session ≤ last) ∧ (last = 0 ∨ ∃ (k : Nat) (h : k < l.length), k < j ∧ l[k].session = last)
theorem SUp.step {m : Ml} {l : List St} {j : Nat} {nd : Nat} (h : SUp m l j nd) (hj : j < l.length) (hp : SeatP m l[j]) (hl : nd < l[j].session) (ht : ∀ k (hk : k < l.length), k < j → ¬ (l[k].node = l[j].node ∧ l[k].try_ = l[j].try_)) : SUp m l (j + 1) l[j].session := by
  unfold SUp
  rw [List.take_succ_eq_append_getElem hj]
  refine ⟨fun x hx => ?_, ?_, ?_, fun x hx => ?_, .inr ⟨j, hj, by omega, rfl⟩⟩
  · rcases List.mem_append.1 hx with hx | hx
    · exact h.1 x hx
    · rw [List.mem_singleton.1 hx]; exact hp
  · refine List.pairwise_append.2 ⟨h.2.1, by simp, fun x hx y hy => ?_⟩
    rw [List.mem_singleton.1 hy]
    have := h.2.2.2.1 x hx
    omega
  · refine List.pairwise_append.2 ⟨h.2.2.1, by simp, fun x hx y hy => ?_⟩
    rw [List.mem_singleton.1 hy]
    obtain ⟨k, hk, rfl⟩ := List.mem_iff_getElem.1 hx
    rw [List.length_take] at hk
    rw [List.getElem_take]
    exact ht k (by omega) (by omega)
  · rcases List.mem_append.1 hx with hx | hx
    · have := h.2.2.2.1 x hx; omega
    · rw [List.mem_singleton.1 hx]; exact Nat.le_refl _
theorem SUp.need {m : Ml} {l : List St} {j : Nat} {nd : Nat} (h : SUp m l j nd) (hj : j < l.length) (h1 : ∀ x ∈ l, SeatP m x) (h2 : l.Pairwise (fun x y => x.session < y.session)) : nd < l[j].session := by
  rcases h.2.2.2.2 with h3 | ⟨k, hk, hkj, h3⟩
  · have := (h1 _ (List.getElem_mem hj)).s1; omega
  · have := List.pairwise_iff_getElem.1 h2 k j hk hj hkj; omega
/-- the home of a seat -/
theorem seat_home {m : Ml} {x : St} (hup : m.homes.Pairwise (fun x y => x.node < y.node)) : (∃ h ∈ m.homes, h.node = x.node ∧ h.life = x.life ∧ x.try_ ≤ h.try_) ↔ (m.homes.find? (fun h => h.node == x.node)).isSome = true ∧ ((m.homes.find? (fun h => h.node == x.node)).getD ⟨0, 0, 0⟩).life = x.life ∧ x.try_ ≤ ((m.homes.find? (fun h => h.node == x.node)).getD ⟨0, 0, 0⟩).try_ := by
  constructor
  · rintro ⟨h, hm, h1, h2, h3⟩
    cases hf : m.homes.find? (fun h => h.node == x.node) with
    | none =>
      have := List.find?_eq_none.1 hf h hm
      rw [h1] at this; simp at this
    | some g =>
      have hg := List.mem_of_find?_eq_some hf
      have hgn : g.node = x.node := by have := List.find?_some hf; simpa using this
      obtain ⟨i, hi, rfl⟩ := List.mem_iff_getElem.1 hm
      obtain ⟨j, hj, rfl⟩ := List.mem_iff_getElem.1 hg
      have : i = j := by
        rcases Nat.lt_trichotomy i j with h4 | h4 | h4
        · have := List.pairwise_iff_getElem.1 hup i j hi hj h4; omega
        · exact h4
        · have := List.pairwise_iff_getElem.1 hup j i hj hi h4; omega
      subst this
      exact ⟨rfl, h2, h3⟩
  · rintro ⟨h1, h2, h3⟩
    cases hf : m.homes.find? (fun h => h.node == x.node) with
    | none => rw [hf] at h1; cases h1
    | some g =>
      rw [hf] at h2 h3
      exact ⟨g, List.mem_of_find?_eq_some hf, by have := List.find?_some hf; simpa using this, h2, h3⟩
end Go.Proofs.YtpkaoiadjffjiaaGreat
namespace Go.Proofs.YtpkaoiadjffjiaaGreat
set_option linter.unusedSimpArgs false
open Go.RowKit
attribute [local go_sem ↓] Go.wp_at_zero Go.wp_at_succ

def isInbox (b : Bx) : Bool := b.name.data.toList == inboxL
/-- mailboxes that rise so far -/
structure BUp (m : Ml) (i cnt : Nat) : Prop where
  bx : ∀ b ∈ m.boxes.take i, BoxP b m.nv
  nm : (m.boxes.take i).Pairwise (fun x y => bxltB x y = true)
  vl : (m.boxes.take i).Pairwise (fun x y => x.validity ≠ y.validity)
  cn : cnt = ((m.boxes.take i).filter isInbox).length
theorem BUp.step {m : Ml} {i cnt : Nat} (h : BUp m i cnt) (hi : i < m.boxes.length) (hb : BoxP m.boxes[i] m.nv) (hk : ∀ k (hk : k < m.boxes.length), k < i → bxltB m.boxes[k] m.boxes[i] = true ∧ m.boxes[k].validity ≠ m.boxes[i].validity) : BUp m (i + 1) (cnt + if isInbox m.boxes[i] then 1 else 0) := by
  have e := List.take_succ_eq_append_getElem hi
  refine ⟨fun x hx => ?_, ?_, ?_, ?_⟩
  · rw [e] at hx
    rcases List.mem_append.1 hx with hx | hx
    · exact h.bx x hx
    · rw [List.mem_singleton.1 hx]; exact hb
  · rw [e]
    refine List.pairwise_append.2 ⟨h.nm, by simp, fun x hx y hy => ?_⟩
    rw [List.mem_singleton.1 hy]
    obtain ⟨k, hk', rfl⟩ := List.mem_iff_getElem.1 hx
    rw [List.length_take] at hk'
    rw [List.getElem_take]
    exact (hk k (by omega) (by omega)).1
  · rw [e]
    refine List.pairwise_append.2 ⟨h.vl, by simp, fun x hx y hy => ?_⟩
    rw [List.mem_singleton.1 hy]
    obtain ⟨k, hk', rfl⟩ := List.mem_iff_getElem.1 hx
    rw [List.length_take] at hk'
    rw [List.getElem_take]
    exact (hk k (by omega) (by omega)).2
  · rw [e, List.filter_append, List.length_append, ← h.cn]
    congr 1
    cases hb : isInbox m.boxes[i] <;> simp [hb]
theorem one_inbox {l : List Bx} (hp : l.Pairwise (fun x y => bxltB x y = true)) : (l.filter isInbox).length = 1 ↔ ∃ b ∈ l, b.name.data.toList = inboxL := by
  constructor
  · intro h
    have : l.filter isInbox ≠ [] := fun e => by rw [e] at h; cases h
    obtain ⟨b, hb⟩ := List.exists_mem_of_ne_nil _ this
    have := List.mem_filter.1 hb
    exact ⟨b, this.1, by simpa [isInbox] using this.2⟩
  · rintro ⟨b, hb, he⟩
    have hf : b ∈ l.filter isInbox := List.mem_filter.2 ⟨hb, by simp [isInbox, he]⟩
    have hpf := hp.sublist (List.filter_sublist (p := isInbox))
    cases hc : l.filter isInbox with
    | nil => rw [hc] at hf; cases hf
    | cons x r =>
      cases r with
      | nil => rfl
      | cons y r =>
        rw [hc] at hpf
        have h1 := (List.pairwise_cons.1 hpf).1 y (by simp)
        have hx : isInbox x = true := (List.mem_filter.1 (show x ∈ l.filter isInbox by rw [hc]; simp)).2
        have hy : isInbox y = true := (List.mem_filter.1 (show y ∈ l.filter isInbox by rw [hc]; simp)).2
        unfold isInbox at hx hy
        unfold bxltB at h1
        rw [eq_of_beq hx, eq_of_beq hy, bytes_sto.irr] at h1
        cases h1
/-- what a state may have that is asked whether it is right -/
structure AskSz (m : Ml) : Prop where
  sz : Sized1 m
  nm : ∀ b ∈ m.boxes, b.name.size ≤ maxLen
  fs : ∀ b ∈ m.boxes, ∀ x ∈ b.letters, Sized x.flags
end Go.Proofs.YtpkaoiadjffjiaaGreat

namespace Go.Proofs.YtpkaoiadjffjiaaGreat
set_option linter.unusedSimpArgs false
open Go.RowKit
attribute [local go_sem ↓] Go.wp_at_zero Go.wp_at_succ

theorem toList_inj_ {u v : ByteArray} (h : u.toList = v.toList) : u = v := by
  rw [ByteArray.toList_eq, ByteArray.toList_eq] at h
  obtain ⟨⟨a⟩⟩ := u
  obtain ⟨⟨b⟩⟩ := v
  simp only at h
  rw [h]
theorem below2 (W : World) (o o2 : Obj) : Below W.heap.size W ((W.alloc o).alloc o2) := ((Below.refl _ W).alloc (Nat.le_refl _) o).alloc (by simp) o2
end Go.Proofs.YtpkaoiadjffjiaaGreat
namespace Go.Proofs.YtpkaoiadjffjiaaGreat
set_option linter.unusedSimpArgs false
open Go.RowKit
attribute [local go_sem ↓] Go.wp_at_zero Go.wp_at_succ

theorem LtsIn.cells_at {W : World} {v : Value} {rows : List LtV} (h : LtsIn W v rows) {j : Nat} (hj : j < rows.length) : ∃ b bo cap, v = .slice (some ⟨b, bo, none⟩) rows.length cap ∧
    ∀ W', Below W.heap.size W W' → W'.cell? ⟨b, bo + j * 5, none⟩ = some (.int .u64 rows[j].x.uid) ∧ W'.cell? ⟨b, bo + j * 5 + 1, none⟩ = some rows[j].v ∧ W'.cell? ⟨b, bo + j * 5 + 2, none⟩ = some (.int .u64 rows[j].x.mod) ∧ W'.cell? ⟨b, bo + j * 5 + 3, none⟩ = some (.string rows[j].x.hash) ∧ W'.cell? ⟨b, bo + j * 5 + 4, none⟩ = some (.int .u64 rows[j].x.size) := by
  obtain ⟨b, bo, cap, hv, -, hbl, hc⟩ := ltT.rd_cells h.1 hj
  refine ⟨b, bo, cap, hv, fun W' hb => ?_⟩
  have hk : ∀ r u, (ltT.enc rows[j])[r]? = some u → W'.cell? ⟨b, bo + j * 5 + r, none⟩ = some u := fun r u hu => by
    rw [Nat.add_assoc]
    exact (hb.cell (p := ⟨b, bo + (j * 5 + r), none⟩) hbl).trans (hc r u hu)
  exact ⟨hk 0 _ rfl, hk 1 _ rfl, hk 2 _ rfl, hk 3 _ rfl, hk 4 _ rfl⟩
end Go.Proofs.YtpkaoiadjffjiaaGreat
namespace Go.Proofs.YtpkaoiadjffjiaaGreat
set_option linter.unusedSimpArgs false
open Go.RowKit

/-- the tail waits for all the head, or there is none -/
def tailOk (md : Region.Mode) (ops : Array Oper) (n : Nat) : Bool := decide (ops.size ≤ n) || (Region.sinkB md ops n && chB md ops n)
theorem tail_waits2 {md : Region.Mode} {ops : Array Oper} {n : Nat} {listed : Array Bool} (hs : tailOk md ops n = true) (inv : HeadInv md ops n listed) {i : Nat} (hi : i < n) (hun : listed.getD i true = false) : ∀ t, n ≤ t → t ∉ Region.ready md ops listed := by
  unfold tailOk at hs
  simp only [Bool.or_eq_true, Bool.and_eq_true, decide_eq_true_eq] at hs
  rcases hs with hs | ⟨h1, h2⟩
  · intro t ht hr
    obtain ⟨_, ot, hot, _⟩ := mem_ready.1 hr
    have := (Array.getElem?_eq_some_iff.1 hot).1
    omega
  · exact tail_waits' h1 h2 inv _ i rfl hi hun
structure HdOkP (ops : Array Oper) (n : Nat) : Prop where
  sel : Region.noSelect ops = true
  tail : tailOk .any ops n = true
section
variable {P : Program} {ops : Array Oper} {Q : Exit → Act → World → Prop} {md : Region.Mode} {p : Nat} {S : Bool → World → Prop} {T : Array Bool → Act → World → Prop}
/-- where operation i may be met -/
def SAll (md : Region.Mode) (ops : Array Oper) (n i p : Nat) (S : Bool → World → Prop) : World → Prop := fun w => ∃ l : Array Bool, HeadInv md ops n l ∧ l.getD i true = false ∧ S (l.getD p false) w
/-- an operation that number p waits for is met ahead of p -/
theorem SAll.early {n i : Nat} {w : World} (h : SAll md ops n i p S w) (hw : Region.waitsFor md ops p i = true) : S false w := by
  obtain ⟨l, inv, h0, hS⟩ := h
  cases hl : l.getD p false with
  | false => rw [hl] at hS; exact hS
  | true =>
    obtain ⟨o, ho, e, he, hb, hon⟩ := Region.waitsFor_spec hw
    have h2 := inv.closed p o ho hl e he hb
    rw [hon, getD_both h0] at h2
    cases h2
/-- whatever order is picked among the first n; S holds behind each; then T, and the last g follow in their order -/
def wpHdP (P : Program) (md : Region.Mode) (ops : Array Oper) (Q : Exit → Act → World → Prop) (p : Nat) (S : Bool → World → Prop) (n : Nat) (T : Array Bool → Act → World → Prop) : Nat → Array Bool → Act → World → Prop
  | 0, listed, a, w => lateB md ops n listed = true ∧ T listed a w
  | f + 1, listed, a, w => Region.ready md ops listed ≠ [] ∧ ∀ i ∈ Region.ready md ops listed, i < n ∧ wpOp P ops Q i (fun a' w' => S ((listed.setIfInBounds i true).getD p false) w' ∧ wpHdP P md ops Q p S n T f (listed.setIfInBounds i true) a' w') a w
theorem wpAny_of_hdP {n g : Nat} (hT : ∀ listed a w, T listed a w → wpAny P md ops Q g listed a w) :
    ∀ (f : Nat) (listed : Array Bool) (a : Act) (w : World), wpHdP P md ops Q p S n T f listed a w → wpAny P md ops Q (f + g) listed a w
  | 0, listed, a, w, h => by rw [Nat.zero_add]; exact hT _ _ _ h.2
  | f + 1, listed, a, w, h => by
    rw [show f + 1 + g = (f + g) + 1 by omega]
    exact ⟨fun h0 => absurd h0 h.1, fun i hi => wpOp_mono (fun a' w' h' => wpAny_of_hdP hT f _ a' w' h'.2) (h.2 i hi).2⟩
theorem wpHdP_first {n i : Nat} {oi : Oper} {v : Value} (hi : ops[i]? = some oi) (hsel : ∀ (j : Nat) (o : Oper) cs b, ops[j]? = some o → o.op ≠ .select cs b)
    (hQ : ∀ c a w, Q (.panic c) (a.put oi.dst v) w → Q (.panic c) a w)
    (hs : tailOk md ops n = true) (hin : i < n) :
    ∀ (f : Nat) (listed : Array Bool) (a : Act) (w : World), HeadInv md ops n listed →
      (∀ j oj, ops[j]? = some oj → j ≠ i → listed.getD j true = false → (∀ e ∈ oj.after, Region.binds md e = true → e.on ≠ i) → oi.apart ops oj = true) →
      i ∈ Region.ready md ops listed → i ≠ p → YieldsIf P ops (SAll md ops n i p S) oi v a → S (listed.getD p false) w →
      wpHdP P md ops Q p S n T f (listed.setIfInBounds i true) (a.put oi.dst v) w → wpHdP P md ops Q p S n T (f + 1) listed a w := by
  intro f
  induction f with
  | zero =>
    intro listed a w inv _ hr hip hy hS H
    have hun := (mem_ready.1 hr).1
    refine ⟨fun h => (by rw [h] at hr; cases hr), fun j hj => ?_⟩
    have hjn : j < n := by
      rcases Nat.lt_or_ge j n with h | h
      · exact h
      · exact absurd hj (tail_waits2 hs inv hin hun j h)
    refine ⟨hjn, ?_⟩
    by_cases hji : j = i
    · subst hji; exact hy.wpOp hi ⟨listed, inv, hun, hS⟩ ⟨by rw [getD_set_ne false hip]; exact hS, H⟩
    · have := lateB_spec H.1 j (ready_mono hj hji)
      omega
  | succ f ih =>
    intro listed a w inv hfree hr hip hy hS H
    have hun := (mem_ready.1 hr).1
    refine ⟨fun h => (by rw [h] at hr; cases hr), fun j hj => ?_⟩
    have hjn : j < n := by
      rcases Nat.lt_or_ge j n with h | h
      · exact h
      · exact absurd hj (tail_waits2 hs inv hin hun j h)
    refine ⟨hjn, ?_⟩
    by_cases hji : j = i
    · subst hji; exact hy.wpOp hi ⟨listed, inv, hun, hS⟩ ⟨by rw [getD_set_ne false hip]; exact hS, H⟩
    · have h1 := (H.2 j (ready_mono hj hji)).2
      obtain ⟨hjun, oj, hoj, hall⟩ := mem_ready.1 hj
      have hnot : ∀ e ∈ oj.after, Region.binds md e = true → e.on ≠ i := fun e he hb heq => by
        have h1 := hall e he hb
        rw [heq, getD_both hun] at h1
        cases h1
      have h2 := wpOp_putIf hoj (hfree j oj hoj hji hjun hnot) (fun cs b => hsel i oi cs b hi) (fun cs b => hsel j oj cs b hoj) hQ hy h1
      have hfree' : ∀ k ok, ops[k]? = some ok → k ≠ i → (listed.setIfInBounds j true).getD k true = false →
          (∀ e ∈ ok.after, Region.binds md e = true → e.on ≠ i) → oi.apart ops ok = true := fun k ok hk hki hun hno => by
        refine hfree k ok hk hki ?_ hno
        by_cases hjk : j = k
        · subst hjk; exact hjun
        · rw [getD_set_ne true hjk] at hun; exact hun
      have hSj : ∀ w', S (((listed.setIfInBounds i true).setIfInBounds j true).getD p false) w' → S ((listed.setIfInBounds j true).getD p false) w' := fun w' h => by rw [Array.setIfInBounds_comm _ _ (Ne.symm hji), getD_set_ne false hip] at h; exact h
      refine wpOp_mono (fun a' w' h3 => ⟨hSj _ h3.2.1, ih (listed.setIfInBounds j true) a' w' (inv.set hj hjn) hfree' (ready_mono hr (Ne.symm hji)) hip h3.1 (hSj _ h3.2.1) ?_⟩) h2
      rw [Array.setIfInBounds_comm _ _ hji]
      exact h3.2.2
/-- the goal of a walk by hand: the listed ones are closed -/
def HdP (P : Program) (ops : Array Oper) (Q : Exit → Act → World → Prop) (p : Nat) (S : Bool → World → Prop) (n : Nat) (T : Array Bool → Act → World → Prop) (f : Nat) (listed : Array Bool) (a : Act) (w : World) : Prop :=
  HeadInv .any ops n listed → wpHdP P .any ops Q p S n T f listed a w
/-- number i is taken first -/
theorem HdP.take {n i f : Nat} {oi : Oper} {v : Value} {listed : Array Bool} {a : Act} {w : World} (hok : HdOkP ops n) (hi : ops[i]? = some oi) (hb : (decide (i < n) && ((Region.ready .any ops listed).contains i && Region.free .any ops listed i)) = true)
    (hQ : ∀ c a w, Q (.panic c) (a.put oi.dst v) w → Q (.panic c) a w) (hip : i ≠ p) (hy : YieldsIf P ops (SAll .any ops n i p S) oi v a) (hS : S (listed.getD p false) w)
    (h : HdP P ops Q p S n T f (listed.setIfInBounds i true) (a.put oi.dst v) w) : HdP P ops Q p S n T (f + 1) listed a w := fun inv => by
  simp only [Bool.and_eq_true, decide_eq_true_eq] at hb
  have hr : i ∈ Region.ready .any ops listed := by simpa using hb.2.1
  exact wpHdP_first hi (Region.noSelect_spec hok.sel) hQ hok.tail hb.1 f listed a w inv (Region.free_spec hi hb.2.2) hr hip hy hS (h (inv.set hr hb.1))
/-- one alone may come up -/
theorem HdP.one {n i f : Nat} {oi : Oper} {listed : Array Bool} {a : Act} {w : World} (hi : ops[i]? = some oi) (hb : (decide (i < n) && (Region.ready .any ops listed == [i])) = true)
    (h : ∀ K' : Act → World → Prop, Shut (∀ a w, S ((listed.setIfInBounds i true).getD p false) w → HdP P ops Q p S n T f (listed.setIfInBounds i true) a w → K' a w) → if Region.wanted oi (yielded ops a.tmps) = true then Oper.wp P oi a w K' Q else K' (a.put oi.dst undef) w) : HdP P ops Q p S n T (f + 1) listed a w := fun inv => by
  simp only [Bool.and_eq_true, decide_eq_true_eq, beq_iff_eq] at hb
  have hr : i ∈ Region.ready .any ops listed := by rw [hb.2]; simp
  refine ⟨by rw [hb.2]; simp, fun j hj => ?_⟩
  rw [hb.2] at hj
  obtain rfl : j = i := by simpa using hj
  exact ⟨hb.1, wpOp_step hi (fun K' hK => h K' (fun a w hS hW => hK a w ⟨hS, hW (inv.set hr hb.1)⟩))⟩
/-- two may come up -/
theorem HdP.two {n i k f : Nat} {oi ok : Oper} {listed : Array Bool} {a : Act} {w : World} (hi : ops[i]? = some oi) (hk : ops[k]? = some ok) (hb : (decide (i < n) && (decide (k < n) && (Region.ready .any ops listed == [i, k]))) = true)
    (h : ∀ K' : Act → World → Prop, Shut (∀ a w, S ((listed.setIfInBounds i true).getD p false) w → HdP P ops Q p S n T f (listed.setIfInBounds i true) a w → K' a w) → if Region.wanted oi (yielded ops a.tmps) = true then Oper.wp P oi a w K' Q else K' (a.put oi.dst undef) w)
    (h2 : ∀ K' : Act → World → Prop, Shut (∀ a w, S ((listed.setIfInBounds k true).getD p false) w → HdP P ops Q p S n T f (listed.setIfInBounds k true) a w → K' a w) → if Region.wanted ok (yielded ops a.tmps) = true then Oper.wp P ok a w K' Q else K' (a.put ok.dst undef) w) : HdP P ops Q p S n T (f + 1) listed a w := fun inv => by
  simp only [Bool.and_eq_true, decide_eq_true_eq, beq_iff_eq] at hb
  have hri : i ∈ Region.ready .any ops listed := by rw [hb.2.2]; simp
  have hrk : k ∈ Region.ready .any ops listed := by rw [hb.2.2]; simp
  refine ⟨by rw [hb.2.2]; simp, fun j hj => ?_⟩
  rw [hb.2.2] at hj
  by_cases e : j = i
  · subst e
    exact ⟨hb.1, wpOp_step hi (fun K' hK => h K' (fun a w hS hW => hK a w ⟨hS, hW (inv.set hri hb.1)⟩))⟩
  · obtain rfl : j = k := by
      simp only [List.mem_cons, List.not_mem_nil, or_false] at hj
      rcases hj with h | h
      · exact absurd h e
      · exact h
    exact ⟨hb.2.1, wpOp_step hk (fun K' hK => h2 K' (fun a w hS hW => hK a w ⟨hS, hW (inv.set hrk hb.2.1)⟩))⟩
theorem HdP.fin {n : Nat} {listed : Array Bool} {a : Act} {w : World} (hb : lateB .any ops n listed = true) (h : HeadInv .any ops n listed → T listed a w) : HdP P ops Q p S n T 0 listed a w := fun inv => ⟨hb, h inv⟩
theorem HdP.done {n g : Nat} {l : List Oper} {listed : Array Bool} {a : Act} {w : World} (hb : (lateB .any ops n listed && Region.seqB .any ops g n listed) = true) (h : wpList P ops Q l a w) : HdP P ops Q p S n (TailT P ops Q n g l) 0 listed a w := fun _ => by
  rw [Bool.and_eq_true] at hb
  exact ⟨hb.1, hb.2, h⟩
end
section
variable {P : Program} {ops : Array Oper} {Q : Exit → Act → World → Prop} {S : World → Prop} {T : Array Bool → Act → World → Prop}
/-- three may come up -/
theorem Hd.three {n i k m f : Nat} {oi ok om : Oper} {listed : Array Bool} {a : Act} {w : World} (hi : ops[i]? = some oi) (hk : ops[k]? = some ok) (hm : ops[m]? = some om) (hb : (decide (i < n) && (decide (k < n) && (decide (m < n) && (Region.ready .any ops listed == [i, k, m])))) = true)
    (h : ∀ K' : Act → World → Prop, Shut (∀ a w, S w → Hd P ops Q S n T f (listed.setIfInBounds i true) a w → K' a w) → if Region.wanted oi (yielded ops a.tmps) = true then Oper.wp P oi a w K' Q else K' (a.put oi.dst undef) w)
    (h2 : ∀ K' : Act → World → Prop, Shut (∀ a w, S w → Hd P ops Q S n T f (listed.setIfInBounds k true) a w → K' a w) → if Region.wanted ok (yielded ops a.tmps) = true then Oper.wp P ok a w K' Q else K' (a.put ok.dst undef) w)
    (h3 : ∀ K' : Act → World → Prop, Shut (∀ a w, S w → Hd P ops Q S n T f (listed.setIfInBounds m true) a w → K' a w) → if Region.wanted om (yielded ops a.tmps) = true then Oper.wp P om a w K' Q else K' (a.put om.dst undef) w) : Hd P ops Q S n T (f + 1) listed a w := fun inv => by
  simp only [Bool.and_eq_true, decide_eq_true_eq, beq_iff_eq] at hb
  have hri : i ∈ Region.ready .any ops listed := by rw [hb.2.2.2]; simp
  have hrk : k ∈ Region.ready .any ops listed := by rw [hb.2.2.2]; simp
  have hrm : m ∈ Region.ready .any ops listed := by rw [hb.2.2.2]; simp
  refine ⟨by rw [hb.2.2.2]; simp, fun j hj => ?_⟩
  rw [hb.2.2.2] at hj
  by_cases e : j = i
  · subst e
    exact ⟨hb.1, wpOp_step hi (fun K' hK => h K' (fun a w hS hW => hK a w ⟨hS, hW (inv.set hri hb.1)⟩))⟩
  · by_cases e2 : j = k
    · subst e2
      exact ⟨hb.2.1, wpOp_step hk (fun K' hK => h2 K' (fun a w hS hW => hK a w ⟨hS, hW (inv.set hrk hb.2.1)⟩))⟩
    · obtain rfl : j = m := by
        simp only [List.mem_cons, List.not_mem_nil, or_false] at hj
        rcases hj with h | h | h
        · exact absurd h e
        · exact absurd h e2
        · exact h
      exact ⟨hb.2.2.1, wpOp_step hm (fun K' hK => h3 K' (fun a w hS hW => hK a w ⟨hS, hW (inv.set hrm hb.2.2.1)⟩))⟩
end
/-- the beginning -/
theorem wp_region_hdP {P : Program} {Q : Exit → Act → World → Prop} {id : Nat} {a : Act} {w : World} {l : List Oper} (p : Nat) (S : Bool → World → Prop) (n g : Nat) (hm : P.follows .mixedOrders = true) (hg : n + g = l.length) (hok : HdOkP l.toArray n) (hS : S false w.drew)
    (h : HdOkP l.toArray n → S false w.drew → HdP P l.toArray Q p S n (TailT P l.toArray Q n g (l.drop n)) n (Array.replicate l.toArray.size false) a w.drew) : (Code.region id l.toArray true).wp P Q a w := by
  refine wp_region_any hm ?_
  have := wpAny_of_hdP (Q := Q) (p := p) (S := S) (g := g) (n := n) (tailT_any hg) n _ _ _ (h hok hS (inv_start l n))
  rw [hg] at this
  simpa using this
end Go.Proofs.YtpkaoiadjffjiaaGreat
namespace Go.Proofs.YtpkaoiadjffjiaaGreat
set_option linter.unusedSimpArgs false
open Go.RowKit
attribute [local go_sem ↓] Go.wp_at_zero Go.wp_at_succ

theorem boxOk_size {nm : ByteArray} (h : boxOk nm.data.toList = true) : nm.size ≤ maxLen := by
  unfold boxOk at h
  simp only [Bool.and_eq_true, decide_eq_true_eq] at h
  have h2 := h.2.1
  have h3 : nm.size = nm.data.toList.length := by rw [Array.length_toList]; rfl
  unfold maxLen
  omega
set_option maxRecDepth 100000 in
set_option maxHeartbeats 16000000 in
theorem boxRight_yes {W : World} (X : BxV) (next : Nat) (hp : BoxP X.b next) (hin : LtsIn W X.v X.rows) :
    Calls Tryz.prog 45 #[.agg #[.string X.name, .int .u64 X.validity, .int .u64 X.next, .int .u64 X.high, .slice X.a X.rows.length X.c], .int .u64 next] W fun e w' => e = .returned (.bool true) ∧ Hid (Below W.heap.size W w') := by
  obtain ⟨nm, va, nx, hg, rows, xa, xc⟩ := X
  have hz1 := (Zoo.nil W).newBox [.string nm, .int .u64 va, .int .u64 nx, .int .u64 hg, .slice xa rows.length xc].toArray 40
  have hin0 : Hid (∀ w', Below W.heap.size W w' → LtsIn w' (.slice xa rows.length xc) rows) := Lib.hid (fun w' h => hin.below h)
  generalize hMB : W.heap.size = MB at hz1
  generalize hWa : (W.alloc (.cells [.string nm, .int .u64 va, .int .u64 nx, .int .u64 hg, .slice xa rows.length xc].toArray 40)) = Wa at hz1
  have hname : Hid (Calls Tryz.prog 56 #[.string nm] Wa fun e w' => e = .returned (.tuple #[.string nm, .bool true]) ∧ Hid (Below Wa.heap.size Wa w')) := Lib.hid ((box_any nm (boxOk_size hp.ok) Wa).mono (by
    rintro e w' ⟨u, rfl, hu, hb⟩
    have h1 : boxOk nm.data.toList = true := hp.ok
    have h2 : boxL nm.data.toList = nm.data.toList := hp.nm
    obtain rfl : u = nm := toList_inj_ (by rw [ByteArray.toList_eq, ByteArray.toList_eq, hu.out, h2])
    rw [h1]
    exact ⟨rfl, Lib.hid hb⟩))
  obtain ⟨hbB, -⟩ := hz1.box 0 rfl
  have x0 : Wa.cell? ⟨MB, 0, none⟩ = some (.string nm) := box_cell hbB 0
  have q0 : (nm.toList != nm.toList) = false := by simp
  have q1 : ¬ ((va : Int) < 1) := by have := hp.v1; dsimp only [BxV.b] at this; omega
  have q2 : ¬ ((next : Int) ≤ (va : Int)) := by have := hp.v2; dsimp only [BxV.b] at this; omega
  have q3 : ¬ ((nx : Int) < 1) := by have := hp.n1; dsimp only [BxV.b] at this; omega
  have q4 : ¬ ((4294967296 : Int) < (nx : Int)) := by have := hp.n2; dsimp only [BxV.b] at this; omega
  have q5 : ¬ ((hg : Int) < 1) := by have := hp.h1; dsimp only [BxV.b] at this; omega
  have q6 : decide ((9223372036854775807 : Int) < (hg : Int)) = false := decide_eq_false (by have := hp.h2; dsimp only [BxV.b] at this; omega)
  have q7 : ¬ ((32 : Int) < (rows.length : Int)) := by have := hp.len; dsimp only [BxV.b] at this; rw [List.length_map] at this; omega
  have h32 : rows.length ≤ 32 := by omega
  have q8 : decide (next ≤ va) = false := decide_eq_false (by omega)
  replace q1 := decide_eq_false q1
  replace q2 := decide_eq_false q2
  replace q3 := decide_eq_false q3
  replace q4 := decide_eq_false q4
  replace q5 := decide_eq_false q5
  replace q7 := decide_eq_false q7
  replace hp := Lib.hid hp
  replace hz1 := Lib.hid hz1
  replace h32 := Lib.hid h32
  clear hin hbB
  show Calls Tryz.prog 45 #[.agg #[.string nm, .int .u64 va, .int .u64 nx, .int .u64 hg, .slice xa rows.length xc], .int .u64 next] W _
  go_enter Tryz.func45, Tryz.ntmps45
  go_wp2_with fail
  refine hname.out.mono ?_
  rintro e w3 ⟨rfl, hb3⟩
  dsimp only
  replace hz1 := Lib.hid (hz1.out.below hb3.out)
  obtain ⟨hbB, -⟩ := hz1.out.box 0 rfl
  clear x0
  have x0 : w3.cell? ⟨MB, 0, none⟩ = some (.string nm) := box_cell hbB 0
  have x1 : w3.cell? ⟨MB, 1, none⟩ = some (.int .u64 va) := box_cell hbB 1
  have x2 : w3.cell? ⟨MB, 2, none⟩ = some (.int .u64 nx) := box_cell hbB 2
  have x3 : w3.cell? ⟨MB, 3, none⟩ = some (.int .u64 hg) := box_cell hbB 3
  have x4 : w3.cell? ⟨MB, 4, none⟩ = some (.slice xa rows.length xc) := box_cell hbB 4
  clear hbB hname hb3
  go_wp2_with fail
  clear x0 x1 x2 x3 x4 q0 q1 q2 q3 q4 q5 q6 q7 q8
  go_loopw [63] (fun v63 wr => ∃ j : Nat, v63 = .int .i64 j ∧ j ≤ rows.length ∧ Hid (Zoo W wr [boxT MB [.string nm, .int .u64 va, .int .u64 nx, .int .u64 hg, .slice xa rows.length xc].toArray 40])) (fun v63 _ => rows.length - (intOf v63).toNat)
  case atStart => exact ⟨0, rfl, Nat.zero_le _, hz1⟩
  case round =>
    clear hz1
    obtain ⟨j, rfl, hj, hz⟩ := hrel
    by_cases hlt : j < rows.length
    · have hin1 := hin0.out wr hz.out.bel
      obtain ⟨b, bo, cap, hv, hc⟩ := hin1.cells_at hlt
      injection hv with hv1 hv2 hv3
      subst hv1 hv3
      have hlm : j < (rows.map LtV.x).length := by rw [List.length_map]; exact hlt
      have hlet := hp.out.lets _ (List.getElem_mem hlm)
      dsimp only [BxV.b] at hlet
      rw [List.getElem_map] at hlet
      have hfi := hin1.2 _ (List.getElem_mem hlt)
      have hprev : 0 < j → ∃ u : Nat, (∀ W', Below wr.heap.size wr W' → W'.cell? ⟨b, bo + (j - 1) * 5, none⟩ = some (.int .u64 u)) ∧ u < rows[j].x.uid := by
        intro hjp
        have hkl : j - 1 < rows.length := by omega
        obtain ⟨b', bo', cap', hv', hc'⟩ := hin1.cells_at hkl
        injection hv' with h1 h2 h3
        injection h1 with h1
        injection h1 with h1 h4
        subst h1 h4
        refine ⟨rows[j - 1].x.uid, fun W' hb => (hc' W' hb).1, ?_⟩
        have := List.pairwise_iff_getElem.1 hp.out.up (j - 1) j (by dsimp only [BxV.b]; rw [List.length_map]; exact hkl) hlm (by omega)
        dsimp only [BxV.b] at this
        rw [List.getElem_map, List.getElem_map] at this
        exact this
      obtain ⟨z, hz'⟩ : ∃ z, rows[j] = z := ⟨_, rfl⟩
      rw [hz'] at hc hlet hfi hprev
      obtain ⟨r0, r1, r2, r3, r4⟩ := hc wr (Below.refl _ _)
      replace r1 : wr.cell? ⟨b, bo + j * 5 + 1, none⟩ = some (.slice z.a z.x.flags.length z.c) := r1
      have hcall : Hid (∀ w', Below wr.heap.size wr w' → Calls Tryz.prog 57 #[.agg #[.int .u64 z.x.uid, .slice z.a z.x.flags.length z.c, .int .u64 z.x.mod, .string z.x.hash, .int .u64 z.x.size], .agg #[.string nm, .int .u64 va, .int .u64 nx, .int .u64 hg, .slice (some ⟨b, bo, none⟩) rows.length xc]] w' fun e w2 => e = .returned (.bool true) ∧ Hid (Below w'.heap.size w' w2)) := Lib.hid (fun w' hb => letterRight_yes z ⟨nm, va, nx, hg, rows, some ⟨b, bo, none⟩, xc⟩ hlet (hfi.below hb))
      replace hprev := Lib.hid hprev
      have hj0 : (0 : Int) ≤ (j : Int) := by omega
      have hj1 : (j : Int) < (rows.length : Int) := by omega
      have hzb := Lib.hid (hz.out.newBox [.int .u64 z.x.uid, .slice z.a z.x.flags.length z.c, .int .u64 z.x.mod, .string z.x.hash, .int .u64 z.x.size].toArray 45)
      have hbw := Lib.hid ((Below.refl wr.heap.size wr).alloc (Nat.le_refl _) (.cells [.int .u64 z.x.uid, .slice z.a z.x.flags.length z.c, .int .u64 z.x.mod, .string z.x.hash, .int .u64 z.x.size].toArray 45))
      clear hc hlet hfi hin1 hlm hz'
      go_upto_region 7 with fail
      generalize hLbE : wr.heap.size = Lb at hzb hcall hprev hbw ⊢
      generalize hWl : (wr.alloc (.cells [.int .u64 z.x.uid, .slice z.a z.x.flags.length z.c, .int .u64 z.x.mod, .string z.x.hash, .int .u64 z.x.size].toArray 45)) = wl at hzb hbw ⊢
      clear hWl r0 r1 r2 r3 r4 hj0
      have hzd := hzb.out.drew
      have hbd := hbw.out.drew
      clear hzb hbw
      have hcd := hcall.out
      replace hprev := hprev.out
      obtain ⟨hbL, -⟩ := hzd.box 0 rfl
      obtain ⟨hbB, -⟩ := hzd.box 1 rfl
      rcases Nat.eq_zero_or_pos j with rfl | hjp
      · clear hprev
        refine wp_region_hd (fun w' => (w'.cell? ⟨Lb, 0, none⟩ = some (.int .u64 z.x.uid) ∧ w'.cell? ⟨Lb, 1, none⟩ = some (.slice z.a z.x.flags.length z.c) ∧ w'.cell? ⟨Lb, 2, none⟩ = some (.int .u64 z.x.mod) ∧ w'.cell? ⟨Lb, 3, none⟩ = some (.string z.x.hash) ∧ w'.cell? ⟨Lb, 4, none⟩ = some (.int .u64 z.x.size)) ∧ (w'.cell? ⟨MB, 0, none⟩ = some (.string nm) ∧ w'.cell? ⟨MB, 1, none⟩ = some (.int .u64 va) ∧ w'.cell? ⟨MB, 2, none⟩ = some (.int .u64 nx) ∧ w'.cell? ⟨MB, 3, none⟩ = some (.int .u64 hg) ∧ w'.cell? ⟨MB, 4, none⟩ = some (.slice (some ⟨b, bo, none⟩) rows.length xc))) 19 1 (by kernel_rfl) rfl ⟨by kernel_rfl, by kernel_rfl, by kernel_rfl, by decide⟩ ⟨⟨box_cell hbL 0, box_cell hbL 1, box_cell hbL 2, box_cell hbL 3, box_cell hbL 4⟩, ⟨box_cell hbB 0, box_cell hbB 1, box_cell hbB 2, box_cell hbB 3, box_cell hbB 4⟩⟩ (fun hok hS0 => ?_)
        generalize wl.drew = Wd at *
        refine Hd.take (i := 0) (v := ?tv1) hok rfl (by kernel_rfl) (fun _ _ _ h => h) (Or.inl ⟨by rfl, ?ty1⟩) (by assumption) ?tr1
        case ty1 => (intro w hSw; (try dsimp only at hSw); go_simp; (try with_reducible rfl))
        try simp only [List.getElem_toArray, List.getElem_cons_succ, List.getElem_cons_zero, Act.put, List.setIfInBounds_toArray, List.set_cons_zero, List.set_cons_succ]
        refine Hd.take (i := 1) (v := ?tv2) hok rfl (by kernel_rfl) (fun _ _ _ h => h) (Or.inl ⟨by rfl, ?ty2⟩) (by assumption) ?tr2
        case ty2 => (intro w hSw; (try dsimp only at hSw); go_simp; (try with_reducible rfl))
        try simp only [List.getElem_toArray, List.getElem_cons_succ, List.getElem_cons_zero, Act.put, List.setIfInBounds_toArray, List.set_cons_zero, List.set_cons_succ]
        refine Hd.one (i := 2) rfl (by kernel_rfl) (fun K hK => ?_)
        go_simp
        refine (hcd _ hbd).mono ?_
        rintro e w5 ⟨rfl, hb5⟩
        dsimp only
        have hz5 := hzd.below hb5.out
        have hbd5 := hbd.trans (hb5.out.mono (by rw [← hLbE]; exact hbd.size))
        clear hbL hbB
        obtain ⟨hbL, -⟩ := hz5.box 0 rfl
        obtain ⟨hbB, -⟩ := hz5.box 1 rfl
        have hS1 : (w5.cell? ⟨Lb, 0, none⟩ = some (.int .u64 z.x.uid) ∧ w5.cell? ⟨Lb, 1, none⟩ = some (.slice z.a z.x.flags.length z.c) ∧ w5.cell? ⟨Lb, 2, none⟩ = some (.int .u64 z.x.mod) ∧ w5.cell? ⟨Lb, 3, none⟩ = some (.string z.x.hash) ∧ w5.cell? ⟨Lb, 4, none⟩ = some (.int .u64 z.x.size)) ∧ (w5.cell? ⟨MB, 0, none⟩ = some (.string nm) ∧ w5.cell? ⟨MB, 1, none⟩ = some (.int .u64 va) ∧ w5.cell? ⟨MB, 2, none⟩ = some (.int .u64 nx) ∧ w5.cell? ⟨MB, 3, none⟩ = some (.int .u64 hg) ∧ w5.cell? ⟨MB, 4, none⟩ = some (.slice (some ⟨b, bo, none⟩) rows.length xc)) := ⟨⟨box_cell hbL 0, box_cell hbL 1, box_cell hbL 2, box_cell hbL 3, box_cell hbL 4⟩, ⟨box_cell hbB 0, box_cell hbB 1, box_cell hbB 2, box_cell hbB 3, box_cell hbB 4⟩⟩
        refine hK _ _ hS1 ?_
        clear hK K hS0
        try simp only [List.getElem_toArray, List.getElem_cons_succ, List.getElem_cons_zero, Act.put, List.setIfInBounds_toArray, List.set_cons_zero, List.set_cons_succ]
        refine Hd.take (i := 3) (v := ?tv3) hok rfl (by kernel_rfl) (fun _ _ _ h => h) (Or.inl ⟨by rfl, ?ty3⟩) (by assumption) ?tr3
        case ty3 => (intro w hSw; (try dsimp only at hSw); go_simp; (try with_reducible rfl))
        try simp only [List.getElem_toArray, List.getElem_cons_succ, List.getElem_cons_zero, Act.put, List.setIfInBounds_toArray, List.set_cons_zero, List.set_cons_succ]
        refine Hd.take (i := 4) (v := ?tv4) hok rfl (by kernel_rfl) (fun _ _ _ h => h) (Or.inl ⟨by rfl, ?ty4⟩) (by assumption) ?tr4
        case ty4 => (intro w hSw; (try dsimp only at hSw); go_simp; (try with_reducible rfl))
        try simp only [List.getElem_toArray, List.getElem_cons_succ, List.getElem_cons_zero, Act.put, List.setIfInBounds_toArray, List.set_cons_zero, List.set_cons_succ]
        refine Hd.take (i := 5) (v := ?tv5) hok rfl (by kernel_rfl) (fun _ _ _ h => h) (Or.inl ⟨by rfl, ?ty5⟩) (by assumption) ?tr5
        case ty5 => (intro w hSw; (try dsimp only at hSw); go_simp; (try with_reducible rfl))
        try simp only [List.getElem_toArray, List.getElem_cons_succ, List.getElem_cons_zero, Act.put, List.setIfInBounds_toArray, List.set_cons_zero, List.set_cons_succ]
        refine Hd.take (i := 6) (v := ?tv6) hok rfl (by kernel_rfl) (fun _ _ _ h => h) (Or.inl ⟨by rfl, ?ty6⟩) (by assumption) ?tr6
        case ty6 => (intro w hSw; (try dsimp only at hSw); go_simp; (try with_reducible rfl))
        try simp only [List.getElem_toArray, List.getElem_cons_succ, List.getElem_cons_zero, Act.put, List.setIfInBounds_toArray, List.set_cons_zero, List.set_cons_succ]
        refine Hd.take (i := 7) (v := ?tv7) hok rfl (by kernel_rfl) (fun _ _ _ h => h) (Or.inl ⟨by rfl, ?ty7⟩) (by assumption) ?tr7
        case ty7 => (intro w hSw; (try dsimp only at hSw); go_simp; (try with_reducible rfl))
        try simp only [List.getElem_toArray, List.getElem_cons_succ, List.getElem_cons_zero, Act.put, List.setIfInBounds_toArray, List.set_cons_zero, List.set_cons_succ]
        refine Hd.take (i := 8) (v := _) hok rfl (by kernel_rfl) (fun _ _ _ h => h) (Or.inr ⟨by rfl, rfl⟩) (by assumption) ?_
        try simp only [List.getElem_toArray, List.getElem_cons_succ, List.getElem_cons_zero, Act.put, List.setIfInBounds_toArray, List.set_cons_zero, List.set_cons_succ]
        refine Hd.take (i := 9) (v := _) hok rfl (by kernel_rfl) (fun _ _ _ h => h) (Or.inr ⟨by rfl, rfl⟩) (by assumption) ?_
        try simp only [List.getElem_toArray, List.getElem_cons_succ, List.getElem_cons_zero, Act.put, List.setIfInBounds_toArray, List.set_cons_zero, List.set_cons_succ]
        refine Hd.take (i := 10) (v := _) hok rfl (by kernel_rfl) (fun _ _ _ h => h) (Or.inr ⟨by rfl, rfl⟩) (by assumption) ?_
        try simp only [List.getElem_toArray, List.getElem_cons_succ, List.getElem_cons_zero, Act.put, List.setIfInBounds_toArray, List.set_cons_zero, List.set_cons_succ]
        refine Hd.take (i := 11) (v := _) hok rfl (by kernel_rfl) (fun _ _ _ h => h) (Or.inr ⟨by rfl, rfl⟩) (by assumption) ?_
        try simp only [List.getElem_toArray, List.getElem_cons_succ, List.getElem_cons_zero, Act.put, List.setIfInBounds_toArray, List.set_cons_zero, List.set_cons_succ]
        refine Hd.take (i := 12) (v := _) hok rfl (by kernel_rfl) (fun _ _ _ h => h) (Or.inr ⟨by rfl, rfl⟩) (by assumption) ?_
        try simp only [List.getElem_toArray, List.getElem_cons_succ, List.getElem_cons_zero, Act.put, List.setIfInBounds_toArray, List.set_cons_zero, List.set_cons_succ]
        refine Hd.take (i := 13) (v := _) hok rfl (by kernel_rfl) (fun _ _ _ h => h) (Or.inr ⟨by rfl, rfl⟩) (by assumption) ?_
        try simp only [List.getElem_toArray, List.getElem_cons_succ, List.getElem_cons_zero, Act.put, List.setIfInBounds_toArray, List.set_cons_zero, List.set_cons_succ]
        refine Hd.take (i := 14) (v := _) hok rfl (by kernel_rfl) (fun _ _ _ h => h) (Or.inr ⟨by rfl, rfl⟩) (by assumption) ?_
        try simp only [List.getElem_toArray, List.getElem_cons_succ, List.getElem_cons_zero, Act.put, List.setIfInBounds_toArray, List.set_cons_zero, List.set_cons_succ]
        refine Hd.take (i := 15) (v := _) hok rfl (by kernel_rfl) (fun _ _ _ h => h) (Or.inr ⟨by rfl, rfl⟩) (by assumption) ?_
        try simp only [List.getElem_toArray, List.getElem_cons_succ, List.getElem_cons_zero, Act.put, List.setIfInBounds_toArray, List.set_cons_zero, List.set_cons_succ]
        refine Hd.take (i := 16) (v := _) hok rfl (by kernel_rfl) (fun _ _ _ h => h) (Or.inr ⟨by rfl, rfl⟩) (by assumption) ?_
        try simp only [List.getElem_toArray, List.getElem_cons_succ, List.getElem_cons_zero, Act.put, List.setIfInBounds_toArray, List.set_cons_zero, List.set_cons_succ]
        refine Hd.take (i := 17) (v := _) hok rfl (by kernel_rfl) (fun _ _ _ h => h) (Or.inr ⟨by rfl, rfl⟩) (by assumption) ?_
        try simp only [List.getElem_toArray, List.getElem_cons_succ, List.getElem_cons_zero, Act.put, List.setIfInBounds_toArray, List.set_cons_zero, List.set_cons_succ]
        refine Hd.take (i := 18) (v := ?tv8) hok rfl (by kernel_rfl) (fun _ _ _ h => h) (Or.inl ⟨by rfl, ?ty8⟩) (by assumption) ?tr8
        case ty8 => (intro w hSw; (try dsimp only at hSw); go_simp; (try with_reducible rfl))
        try simp only [List.getElem_toArray, List.getElem_cons_succ, List.getElem_cons_zero, Act.put, List.setIfInBounds_toArray, List.set_cons_zero, List.set_cons_succ]
        refine Hd.done (by kernel_rfl) ?_
        simp only [List.drop_succ_cons, List.drop_zero]
        have hzF := Lib.hid (hz5.sub (L' := [boxT MB [.string nm, .int .u64 va, .int .u64 nx, .int .u64 hg, .slice (some ⟨b, bo, none⟩) rows.length xc].toArray 40]) (List.Sublist.cons _ (List.Sublist.refl _)))
        clear hok hbL hbB hzd hz5 hcd hcall hb5
        have h32p := h32.out
        go_wp2_with fail
        go_roundw
        case rel => exact ⟨0 + 1, by go_num, by omega, hzF⟩
        case measure => simp [intOf] <;> omega
      · obtain ⟨u, hpc, hpu⟩ := hprev hjp
        have hu1 : decide ((z.x.uid : Int) ≤ (u : Int)) = false := decide_eq_false (by omega)
        have hu2 : decide (z.x.uid ≤ u) = false := decide_eq_false (by omega)
        have hp1 : (0 : Int) < (j : Int) := by omega
        have hp2 : (0 : Int) ≤ (j : Int) - 1 := by omega
        have hp3 : (j : Int) - 1 < (rows.length : Int) := by omega
        have hp4 : IntKind.i64.wrap ((j : Int) - 1) = (j : Int) - 1 := IntWalk.i64_in _ (by have := h32.out; omega)
        have hp5 : ((j : Int) - 1).toNat = j - 1 := by omega
        have hp6 : (1 : Int) ≤ (j : Int) := by omega
        clear hprev
        refine wp_region_hd (fun w' => (w'.cell? ⟨Lb, 0, none⟩ = some (.int .u64 z.x.uid) ∧ w'.cell? ⟨Lb, 1, none⟩ = some (.slice z.a z.x.flags.length z.c) ∧ w'.cell? ⟨Lb, 2, none⟩ = some (.int .u64 z.x.mod) ∧ w'.cell? ⟨Lb, 3, none⟩ = some (.string z.x.hash) ∧ w'.cell? ⟨Lb, 4, none⟩ = some (.int .u64 z.x.size)) ∧ (w'.cell? ⟨MB, 0, none⟩ = some (.string nm) ∧ w'.cell? ⟨MB, 1, none⟩ = some (.int .u64 va) ∧ w'.cell? ⟨MB, 2, none⟩ = some (.int .u64 nx) ∧ w'.cell? ⟨MB, 3, none⟩ = some (.int .u64 hg) ∧ w'.cell? ⟨MB, 4, none⟩ = some (.slice (some ⟨b, bo, none⟩) rows.length xc)) ∧ w'.cell? ⟨b, bo + (j - 1) * 5, none⟩ = some (.int .u64 u)) 19 1 (by kernel_rfl) rfl ⟨by kernel_rfl, by kernel_rfl, by kernel_rfl, by decide⟩ ⟨⟨box_cell hbL 0, box_cell hbL 1, box_cell hbL 2, box_cell hbL 3, box_cell hbL 4⟩, ⟨box_cell hbB 0, box_cell hbB 1, box_cell hbB 2, box_cell hbB 3, box_cell hbB 4⟩, hpc _ hbd⟩ (fun hok hS0 => ?_)
        generalize wl.drew = Wd at *
        refine Hd.take (i := 0) (v := ?tv9) hok rfl (by kernel_rfl) (fun _ _ _ h => h) (Or.inl ⟨by rfl, ?ty9⟩) (by assumption) ?tr9
        case ty9 => (intro w hSw; (try dsimp only at hSw); go_simp; (try with_reducible rfl))
        try simp only [List.getElem_toArray, List.getElem_cons_succ, List.getElem_cons_zero, Act.put, List.setIfInBounds_toArray, List.set_cons_zero, List.set_cons_succ]
        refine Hd.take (i := 1) (v := ?tv10) hok rfl (by kernel_rfl) (fun _ _ _ h => h) (Or.inl ⟨by rfl, ?ty10⟩) (by assumption) ?tr10
        case ty10 => (intro w hSw; (try dsimp only at hSw); go_simp; (try with_reducible rfl))
        try simp only [List.getElem_toArray, List.getElem_cons_succ, List.getElem_cons_zero, Act.put, List.setIfInBounds_toArray, List.set_cons_zero, List.set_cons_succ]
        refine Hd.one (i := 2) rfl (by kernel_rfl) (fun K hK => ?_)
        go_simp
        refine (hcd _ hbd).mono ?_
        rintro e w5 ⟨rfl, hb5⟩
        dsimp only
        have hz5 := hzd.below hb5.out
        have hbd5 := hbd.trans (hb5.out.mono (by rw [← hLbE]; exact hbd.size))
        clear hbL hbB
        obtain ⟨hbL, -⟩ := hz5.box 0 rfl
        obtain ⟨hbB, -⟩ := hz5.box 1 rfl
        have hS1 : (w5.cell? ⟨Lb, 0, none⟩ = some (.int .u64 z.x.uid) ∧ w5.cell? ⟨Lb, 1, none⟩ = some (.slice z.a z.x.flags.length z.c) ∧ w5.cell? ⟨Lb, 2, none⟩ = some (.int .u64 z.x.mod) ∧ w5.cell? ⟨Lb, 3, none⟩ = some (.string z.x.hash) ∧ w5.cell? ⟨Lb, 4, none⟩ = some (.int .u64 z.x.size)) ∧ (w5.cell? ⟨MB, 0, none⟩ = some (.string nm) ∧ w5.cell? ⟨MB, 1, none⟩ = some (.int .u64 va) ∧ w5.cell? ⟨MB, 2, none⟩ = some (.int .u64 nx) ∧ w5.cell? ⟨MB, 3, none⟩ = some (.int .u64 hg) ∧ w5.cell? ⟨MB, 4, none⟩ = some (.slice (some ⟨b, bo, none⟩) rows.length xc)) ∧ w5.cell? ⟨b, bo + (j - 1) * 5, none⟩ = some (.int .u64 u) := ⟨⟨box_cell hbL 0, box_cell hbL 1, box_cell hbL 2, box_cell hbL 3, box_cell hbL 4⟩, ⟨box_cell hbB 0, box_cell hbB 1, box_cell hbB 2, box_cell hbB 3, box_cell hbB 4⟩, hpc _ hbd5⟩
        refine hK _ _ hS1 ?_
        clear hK K hS0
        try simp only [List.getElem_toArray, List.getElem_cons_succ, List.getElem_cons_zero, Act.put, List.setIfInBounds_toArray, List.set_cons_zero, List.set_cons_succ]
        refine Hd.take (i := 3) (v := ?tv11) hok rfl (by kernel_rfl) (fun _ _ _ h => h) (Or.inl ⟨by rfl, ?ty11⟩) (by assumption) ?tr11
        case ty11 => (intro w hSw; (try dsimp only at hSw); go_simp; (try with_reducible rfl))
        try simp only [List.getElem_toArray, List.getElem_cons_succ, List.getElem_cons_zero, Act.put, List.setIfInBounds_toArray, List.set_cons_zero, List.set_cons_succ]
        refine Hd.take (i := 4) (v := ?tv12) hok rfl (by kernel_rfl) (fun _ _ _ h => h) (Or.inl ⟨by rfl, ?ty12⟩) (by assumption) ?tr12
        case ty12 => (intro w hSw; (try dsimp only at hSw); go_simp; (try with_reducible rfl))
        try simp only [List.getElem_toArray, List.getElem_cons_succ, List.getElem_cons_zero, Act.put, List.setIfInBounds_toArray, List.set_cons_zero, List.set_cons_succ]
        refine Hd.take (i := 5) (v := ?tv13) hok rfl (by kernel_rfl) (fun _ _ _ h => h) (Or.inl ⟨by rfl, ?ty13⟩) (by assumption) ?tr13
        case ty13 => (intro w hSw; (try dsimp only at hSw); go_simp; (try with_reducible rfl))
        try simp only [List.getElem_toArray, List.getElem_cons_succ, List.getElem_cons_zero, Act.put, List.setIfInBounds_toArray, List.set_cons_zero, List.set_cons_succ]
        refine Hd.take (i := 6) (v := ?tv14) hok rfl (by kernel_rfl) (fun _ _ _ h => h) (Or.inl ⟨by rfl, ?ty14⟩) (by assumption) ?tr14
        case ty14 => (intro w hSw; (try dsimp only at hSw); go_simp; (try with_reducible rfl))
        try simp only [List.getElem_toArray, List.getElem_cons_succ, List.getElem_cons_zero, Act.put, List.setIfInBounds_toArray, List.set_cons_zero, List.set_cons_succ]
        refine Hd.take (i := 7) (v := ?tv15) hok rfl (by kernel_rfl) (fun _ _ _ h => h) (Or.inl ⟨by rfl, ?ty15⟩) (by assumption) ?tr15
        case ty15 => (intro w hSw; (try dsimp only at hSw); go_simp; (try with_reducible rfl))
        try simp only [List.getElem_toArray, List.getElem_cons_succ, List.getElem_cons_zero, Act.put, List.setIfInBounds_toArray, List.set_cons_zero, List.set_cons_succ]
        refine Hd.take (i := 8) (v := ?tv16) hok rfl (by kernel_rfl) (fun _ _ _ h => h) (Or.inl ⟨by rfl, ?ty16⟩) (by assumption) ?tr16
        case ty16 => (intro w hSw; (try dsimp only at hSw); go_simp; (try with_reducible rfl))
        try simp only [List.getElem_toArray, List.getElem_cons_succ, List.getElem_cons_zero, Act.put, List.setIfInBounds_toArray, List.set_cons_zero, List.set_cons_succ]
        refine Hd.take (i := 9) (v := ?tv17) hok rfl (by kernel_rfl) (fun _ _ _ h => h) (Or.inl ⟨by rfl, ?ty17⟩) (by assumption) ?tr17
        case ty17 => (intro w hSw; (try dsimp only at hSw); go_simp; (try with_reducible rfl))
        try simp only [List.getElem_toArray, List.getElem_cons_succ, List.getElem_cons_zero, Act.put, List.setIfInBounds_toArray, List.set_cons_zero, List.set_cons_succ]
        refine Hd.take (i := 10) (v := ?tv18) hok rfl (by kernel_rfl) (fun _ _ _ h => h) (Or.inl ⟨by rfl, ?ty18⟩) (by assumption) ?tr18
        case ty18 => (intro w hSw; (try dsimp only at hSw); go_simp; (try with_reducible rfl))
        try simp only [List.getElem_toArray, List.getElem_cons_succ, List.getElem_cons_zero, Act.put, List.setIfInBounds_toArray, List.set_cons_zero, List.set_cons_succ]
        refine Hd.take (i := 11) (v := ?tv19) hok rfl (by kernel_rfl) (fun _ _ _ h => h) (Or.inl ⟨by rfl, ?ty19⟩) (by assumption) ?tr19
        case ty19 => (intro w hSw; (try dsimp only at hSw); go_simp; (try with_reducible rfl))
        try simp only [List.getElem_toArray, List.getElem_cons_succ, List.getElem_cons_zero, Act.put, List.setIfInBounds_toArray, List.set_cons_zero, List.set_cons_succ]
        refine Hd.take (i := 12) (v := ?tv20) hok rfl (by kernel_rfl) (fun _ _ _ h => h) (Or.inl ⟨by rfl, ?ty20⟩) (by assumption) ?tr20
        case ty20 => (intro w hSw; (try dsimp only at hSw); go_simp; (try with_reducible rfl))
        try simp only [List.getElem_toArray, List.getElem_cons_succ, List.getElem_cons_zero, Act.put, List.setIfInBounds_toArray, List.set_cons_zero, List.set_cons_succ]
        refine Hd.take (i := 13) (v := ?tv21) hok rfl (by kernel_rfl) (fun _ _ _ h => h) (Or.inl ⟨by rfl, ?ty21⟩) (by assumption) ?tr21
        case ty21 => (intro w hSw; (try dsimp only at hSw); go_simp; (try with_reducible rfl))
        try simp only [List.getElem_toArray, List.getElem_cons_succ, List.getElem_cons_zero, Act.put, List.setIfInBounds_toArray, List.set_cons_zero, List.set_cons_succ]
        refine Hd.take (i := 14) (v := ?tv22) hok rfl (by kernel_rfl) (fun _ _ _ h => h) (Or.inl ⟨by rfl, ?ty22⟩) (by assumption) ?tr22
        case ty22 => (intro w hSw; (try dsimp only at hSw); go_simp; (try with_reducible rfl))
        try simp only [List.getElem_toArray, List.getElem_cons_succ, List.getElem_cons_zero, Act.put, List.setIfInBounds_toArray, List.set_cons_zero, List.set_cons_succ]
        refine Hd.take (i := 15) (v := ?tv23) hok rfl (by kernel_rfl) (fun _ _ _ h => h) (Or.inl ⟨by rfl, ?ty23⟩) (by assumption) ?tr23
        case ty23 => (intro w hSw; (try dsimp only at hSw); go_simp; (try with_reducible rfl))
        try simp only [List.getElem_toArray, List.getElem_cons_succ, List.getElem_cons_zero, Act.put, List.setIfInBounds_toArray, List.set_cons_zero, List.set_cons_succ]
        refine Hd.take (i := 16) (v := ?tv24) hok rfl (by kernel_rfl) (fun _ _ _ h => h) (Or.inl ⟨by rfl, ?ty24⟩) (by assumption) ?tr24
        case ty24 => (intro w hSw; (try dsimp only at hSw); go_simp; (try with_reducible rfl))
        try simp only [List.getElem_toArray, List.getElem_cons_succ, List.getElem_cons_zero, Act.put, List.setIfInBounds_toArray, List.set_cons_zero, List.set_cons_succ]
        refine Hd.take (i := 17) (v := ?tv25) hok rfl (by kernel_rfl) (fun _ _ _ h => h) (Or.inl ⟨by rfl, ?ty25⟩) (by assumption) ?tr25
        case ty25 => (intro w hSw; (try dsimp only at hSw); go_simp; (try with_reducible rfl))
        try simp only [List.getElem_toArray, List.getElem_cons_succ, List.getElem_cons_zero, Act.put, List.setIfInBounds_toArray, List.set_cons_zero, List.set_cons_succ]
        refine Hd.take (i := 18) (v := ?tv26) hok rfl (by kernel_rfl) (fun _ _ _ h => h) (Or.inl ⟨by rfl, ?ty26⟩) (by assumption) ?tr26
        case ty26 => (intro w hSw; (try dsimp only at hSw); go_simp; (try with_reducible rfl))
        try simp only [List.getElem_toArray, List.getElem_cons_succ, List.getElem_cons_zero, Act.put, List.setIfInBounds_toArray, List.set_cons_zero, List.set_cons_succ]
        refine Hd.done (by kernel_rfl) ?_
        simp only [List.drop_succ_cons, List.drop_zero]
        have hzF := Lib.hid (hz5.sub (L' := [boxT MB [.string nm, .int .u64 va, .int .u64 nx, .int .u64 hg, .slice (some ⟨b, bo, none⟩) rows.length xc].toArray 40]) (List.Sublist.cons _ (List.Sublist.refl _)))
        clear hok hbL hbB hzd hz5 hcd hcall hb5
        have h32p := h32.out
        go_wp2_with fail
        go_roundw
        case rel => exact ⟨j + 1, by go_num, by omega, hzF⟩
        case measure => simp [intOf] <;> omega
    · obtain rfl : j = rows.length := by omega
      have hbF := Lib.hid hz.out.bel
      go_wp2_with fail
      go_ret
      first | exact ⟨rfl, hbF⟩ | (rw [← hMB]; exact ⟨rfl, hbF⟩)
end Go.Proofs.YtpkaoiadjffjiaaGreat
