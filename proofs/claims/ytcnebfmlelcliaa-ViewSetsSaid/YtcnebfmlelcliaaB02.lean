/- What mail is made of: letters, mailboxes, seats, homes, a state; how they lie in memory. slices.Clone at letters, mailboxes, seats, homes and texts: walked. Flags among other things; things joined, merged, in another order. mail.cloneBox: walked. mail.clone: walked. IndexFunc with mail's closures: walked. mail.home, opened, seat, at, Find: walked. Rows of which the end is cleared. nothing of its own -/
import Derived.Test.YtcnebfmlelcliaaB01
import Derived.Test.YtcnebfmlelcliaaChecked
import Derived.Sort.EncStr
import Derived.Laws.ResultCell
import Derived.Laws.EntriesVeiled
import Derived.Lib.SliceRun
namespace Go.Proofs.Ytcnebfmlelcliaa
open Go.RowKit

structure Lt where
  uid : Nat
  flags : List (List UInt8)
  mod : Nat
  hash : ByteArray
  size : Nat
structure Bx where
  name : ByteArray
  validity : Nat
  next : Nat
  high : Nat
  letters : List Lt
structure St where
  session : Nat
  last : Nat
  node : Int
  life : Nat
  try_ : Nat
structure Hm where
  node : Int
  life : Nat
  try_ : Nat
structure Ml where
  boxes : List Bx
  nv : Nat
  homes : List Hm
  seats : List St
  ns : Nat
  sweeps : Nat
/-- a letter, and where its flags lie -/
structure LtV where
  x : Lt
  a : Option Addr
  c : Nat
def LtV.v (y : LtV) : Value := .slice y.a y.x.flags.length y.c
/-- a mailbox, and where its letters lie -/
structure BxV where
  name : ByteArray
  validity : Nat
  next : Nat
  high : Nat
  rows : List LtV
  a : Option Addr
  c : Nat
def BxV.v (y : BxV) : Value := .slice y.a y.rows.length y.c
def BxV.b (y : BxV) : Bx := ⟨y.name, y.validity, y.next, y.high, y.rows.map LtV.x⟩
def ltCells (y : LtV) : List Value := [.int .u64 y.x.uid, y.v, .int .u64 y.x.mod, .string y.x.hash, .int .u64 y.x.size]
def bxCells (y : BxV) : List Value := [.string y.name, .int .u64 y.validity, .int .u64 y.next, .int .u64 y.high, y.v]
def stCells (x : St) : List Value := [.int .u64 x.session, .int .u64 x.last, .int .i64 x.node, .int .u64 x.life, .int .u64 x.try_]
def hmCells (x : Hm) : List Value := [.int .i64 x.node, .int .u64 x.life, .int .u64 x.try_]
def ltT : RT LtV where
  enc := ltCells
  K := 5
  t := 66
  ts := 26
  z := .agg #[.int .u64 0, .slice none 0 0, .int .u64 0, .string ⟨#[]⟩, .int .u64 0]
  bytes := 64
  len := fun _ => rfl
  one := fun x u hu => by simp [ltCells, LtV.v] at hu; rcases hu with rfl | rfl | rfl | rfl | rfl <;> rfl
  pos := by decide
  und := Try.underlying26
  info := by kernel_rfl
  zs := rfl
  bb := by decide
def bxT : RT BxV where
  enc := bxCells
  K := 5
  t := 28
  ts := 43
  z := .agg #[.string ⟨#[]⟩, .int .u64 0, .int .u64 0, .int .u64 0, .slice none 0 0]
  bytes := 64
  len := fun _ => rfl
  one := fun x u hu => by simp [bxCells, BxV.v] at hu; rcases hu with rfl | rfl | rfl | rfl | rfl <;> rfl
  pos := by decide
  und := Try.underlying43
  info := by kernel_rfl
  zs := rfl
  bb := by decide
def stT : RT St where
  enc := stCells
  K := 5
  t := 108
  ts := 45
  z := .agg #[.int .u64 0, .int .u64 0, .int .i64 0, .int .u64 0, .int .u64 0]
  bytes := 40
  len := fun _ => rfl
  one := fun x u hu => by simp [stCells] at hu; rcases hu with rfl | rfl | rfl | rfl | rfl <;> rfl
  pos := by decide
  und := Try.underlying45
  info := by kernel_rfl
  zs := rfl
  bb := by decide
def hmT : RT Hm where
  enc := hmCells
  K := 3
  t := 106
  ts := 44
  z := .agg #[.int .i64 0, .int .u64 0, .int .u64 0]
  bytes := 24
  len := fun _ => rfl
  one := fun x u hu => by simp [hmCells] at hu; rcases hu with rfl | rfl | rfl <;> rfl
  pos := by decide
  und := Try.underlying44
  info := by kernel_rfl
  zs := rfl
  bb := by decide
/-- a slice that reads as a list of flags -/
def FlIn (W : World) (v : Value) (l : List (List UInt8)) : Prop := Rd W v l.length (l.map encStr)
/-- the letters of a row, their flags -/
def LtsOk (W : World) (l : List LtV) : Prop := ∀ y ∈ l, FlIn W y.v y.x.flags
def LtsIn (W : World) (v : Value) (l : List LtV) : Prop := Rd W v l.length (ltT.cells l) ∧ LtsOk W l
def BxsOk (W : World) (l : List BxV) : Prop := ∀ y ∈ l, LtsIn W y.v y.rows
def BxsIn (W : World) (v : Value) (l : List BxV) : Prop := Rd W v l.length (bxT.cells l) ∧ BxsOk W l
def StsIn (W : World) (v : Value) (l : List St) : Prop := Rd W v l.length (stT.cells l)
def HmsIn (W : World) (v : Value) (l : List Hm) : Prop := Rd W v l.length (hmT.cells l)
theorem LtsOk.below {W W' : World} {l : List LtV} (h : LtsOk W l) (hb : Below W.heap.size W W') : LtsOk W' l := fun y hy => (h y hy).below hb
theorem LtsIn.below {W W' : World} {v : Value} {l : List LtV} (h : LtsIn W v l) (hb : Below W.heap.size W W') : LtsIn W' v l := ⟨h.1.below hb, h.2.below hb⟩
theorem BxsOk.below {W W' : World} {l : List BxV} (h : BxsOk W l) (hb : Below W.heap.size W W') : BxsOk W' l := fun y hy => (h y hy).below hb
theorem BxsIn.below {W W' : World} {v : Value} {l : List BxV} (h : BxsIn W v l) (hb : Below W.heap.size W W') : BxsIn W' v l := ⟨h.1.below hb, h.2.below hb⟩
def mlVal (vb : Value) (nv : Nat) (vh vs : Value) (ns sw : Nat) : Value := .agg #[vb, .int .u64 nv, vh, vs, .int .u64 ns, .int .u64 sw]
/-- v reads as the state m -/
def MlIn (W : World) (v : Value) (m : Ml) : Prop := ∃ (vb vh vs : Value) (bs : List BxV), v = mlVal vb m.nv vh vs m.ns m.sweeps ∧ bs.map BxV.b = m.boxes ∧ BxsIn W vb bs ∧ HmsIn W vh m.homes ∧ StsIn W vs m.seats
theorem MlIn.below {W W' : World} {v : Value} {m : Ml} (h : MlIn W v m) (hb : Below W.heap.size W W') : MlIn W' v m := by
  obtain ⟨vb, vh, vs, bs, h1, h2, h3, h4, h5⟩ := h
  exact ⟨vb, vh, vs, bs, h1, h2, h3.below hb, Rd.below h4 hb, Rd.below h5 hb⟩
end Go.Proofs.Ytcnebfmlelcliaa
namespace Go.Proofs.Ytcnebfmlelcliaa
open Go.RowKit

def flT : RT (List UInt8) where
  enc := fun l => [encStr l]
  K := 1
  t := 9
  ts := 58
  z := .string ⟨#[]⟩
  bytes := 16
  len := fun _ => rfl
  one := fun x u hu => by simp at hu; subst hu; rfl
  pos := by decide
  und := Try.underlying58
  info := by kernel_rfl
  zs := rfl
  bb := by decide
theorem flT_cells (l : List (List UInt8)) : flT.cells l = l.map encStr := by
  induction l with
  | nil => rfl
  | cons x r ih =>
    have h : flT.cells (x :: r) = encStr x :: flT.cells r := rfl
    rw [h, ih]; rfl
theorem FlIn.rd {W : World} {v : Value} {l : List (List UInt8)} (h : FlIn W v l) : Rd W v l.length (flT.cells l) := by rw [flT_cells]; exact h
theorem FlIn.of_own {W : World} {v : Value} {l : List (List UInt8)} (h : flT.Own W v l) : FlIn W v l := by have := h.rd; rwa [flT_cells] at this
/-- what a call hands back that makes a row -/
def RowRet {α : Type} (R : RT α) (l : List α) (W : World) (e : Ending) (w' : World) : Prop := ∃ v', e = .returned v' ∧ Hid (R.Own w' v' l) ∧ Hid (Below W.heap.size W w') ∧ Hid (∀ g, v'.ownBlock = some g → W.heap.size ≤ g)
set_option maxRecDepth 100000 in
set_option maxHeartbeats 2000000 in
theorem cloneFl_any {W : World} {v : Value} {l : List _} (h : Rd W v l.length (flT.cells l)) (hl : l.length ≤ 100000) :
    Calls Try.prog 41 #[v] W (RowRet flT l W) := by
  have h0 := Lib.hid h
  obtain ⟨ao, cap, rfl, h1⟩ := h
  cases ao with
  | none =>
    have e : l = [] := by
      rcases h1 with h | ⟨b, o, h, _⟩
      · exact List.eq_nil_of_length_eq_zero h
      · cases h
    subst e
    clear h1
    have he : ∀ W : World, (binOp .eql 58 (.slice none 0 cap) (.slice none 0 0)).run Try.prog W = .ok (.bool true) W := fun _ => rfl
    change Calls Try.prog 41 #[.slice none 0 cap] W _
    go_enter Try.func41, Try.ntmps41
    go_wp2_with fail
    go_ret
    exact ⟨_, rfl, Lib.hid (RT.Own.nil _ _), Lib.hid (Below.refl _ _), Lib.hid (fun g hg => by simp [Value.ownBlock] at hg)⟩
  | some p =>
    clear h1
    have he : ∀ W : World, (binOp .eql 58 (.slice (some p) l.length cap) (.slice none 0 0)).run Try.prog W = .ok (.bool false) W := fun _ => rfl
    go_enter Try.func41, Try.ntmps41
    go_wp2_with (at_builtin; refine flT.wpList_append rfl (.tmp 5) (.tmp 6) rfl _ _ [] l rfl rfl (RT.Own.empty flT W W.heap.size rfl) (h0.out.below ((Below.refl _ _).alloc (Nat.le_refl _) (.cells #[] 9))) (by simp; omega) ?_)
    intro v3 w4 hown hgr hat
    have hb : Below W.heap.size W w4 := ((Below.refl _ W).alloc (Nat.le_refl _) (.cells #[] 9)).grown hgr (by simp) (fun k hk => by simp [Value.ownBlock] at hk; omega)
    have hf : ∀ g, v3.ownBlock = some g → W.heap.size ≤ g := fun k hk => by
      rcases hat k hk with q | q
      · simp [Value.ownBlock] at q; omega
      · omega
    replace hb := Lib.hid hb
    replace hf := Lib.hid hf
    replace hown := Lib.hid hown
    clear hgr hat
    go_wp2_with fail
    go_ret
    exact ⟨_, rfl, hown, hb, hf⟩
set_option maxRecDepth 100000 in
set_option maxHeartbeats 2000000 in
theorem cloneLt_any {W : World} {v : Value} {l : List _} (h : Rd W v l.length (ltT.cells l)) (hl : l.length ≤ 100000) :
    Calls Try.prog 64 #[v] W (RowRet ltT l W) := by
  have h0 := Lib.hid h
  obtain ⟨ao, cap, rfl, h1⟩ := h
  cases ao with
  | none =>
    have e : l = [] := by
      rcases h1 with h | ⟨b, o, h, _⟩
      · exact List.eq_nil_of_length_eq_zero h
      · cases h
    subst e
    clear h1
    have he : ∀ W : World, (binOp .eql 26 (.slice none 0 cap) (.slice none 0 0)).run Try.prog W = .ok (.bool true) W := fun _ => rfl
    change Calls Try.prog 64 #[.slice none 0 cap] W _
    go_enter Try.func64, Try.ntmps64
    go_wp2_with fail
    go_ret
    exact ⟨_, rfl, Lib.hid (RT.Own.nil _ _), Lib.hid (Below.refl _ _), Lib.hid (fun g hg => by simp [Value.ownBlock] at hg)⟩
  | some p =>
    clear h1
    have he : ∀ W : World, (binOp .eql 26 (.slice (some p) l.length cap) (.slice none 0 0)).run Try.prog W = .ok (.bool false) W := fun _ => rfl
    go_enter Try.func64, Try.ntmps64
    go_wp2_with (at_builtin; refine ltT.wpList_append rfl (.tmp 5) (.tmp 6) rfl _ _ [] l rfl rfl (RT.Own.empty ltT W W.heap.size rfl) (h0.out.below ((Below.refl _ _).alloc (Nat.le_refl _) (.cells #[] 66))) (by simp; omega) ?_)
    intro v3 w4 hown hgr hat
    have hb : Below W.heap.size W w4 := ((Below.refl _ W).alloc (Nat.le_refl _) (.cells #[] 66)).grown hgr (by simp) (fun k hk => by simp [Value.ownBlock] at hk; omega)
    have hf : ∀ g, v3.ownBlock = some g → W.heap.size ≤ g := fun k hk => by
      rcases hat k hk with q | q
      · simp [Value.ownBlock] at q; omega
      · omega
    replace hb := Lib.hid hb
    replace hf := Lib.hid hf
    replace hown := Lib.hid hown
    clear hgr hat
    go_wp2_with fail
    go_ret
    exact ⟨_, rfl, hown, hb, hf⟩
end Go.Proofs.Ytcnebfmlelcliaa
namespace Go.Proofs.Ytcnebfmlelcliaa
open Go.RowKit

/-- slices that read as lists of flags, and that nobody writes -/
def flagsT (S : List (Value × List (List UInt8))) : Th := ⟨fun F W => (∀ k, F k → k < W.heap.size) ∧ ∀ p ∈ S, ∃ ao cap, p.1 = .slice ao p.2.length cap ∧ (p.2 = [] ∨ ∃ b o, ao = some ⟨b, o, none⟩ ∧ F b ∧ p.2.length ≤ cap ∧ ∀ i u, (p.2.map encStr)[i]? = some u → W.cell? ⟨b, o + i, none⟩ = some u),
  fun F W h k hk => h.1 k hk,
  fun F W W' h hk => ⟨fun k hF => (by
    have h1 := hk k hF
    have h2 := h.1 k hF
    rcases Nat.lt_or_ge k W'.heap.size with h3 | h3
    · exact h3
    · rw [Array.getElem?_eq_none h3, Array.getElem?_eq_getElem h2] at h1; cases h1), fun p hp => by
    obtain ⟨ao, cap, hv, h1⟩ := h.2 p hp
    refine ⟨ao, cap, hv, h1.imp id ?_⟩
    rintro ⟨b, o, ha, hF, hc, hcell⟩
    exact ⟨b, o, ha, hF, hc, fun i u hu => (World.cell?_of_block (hk b hF)).trans (hcell i u hu)⟩⟩⟩
variable {W0 W W' : World} {L L2 : List Th}
theorem Zoo.fl {S : List (Value × List (List UInt8))} (h : Zoo W0 W L) (i : Nat) (hi : L[i]? = some (flagsT S)) {v : Value} {l : List (List UInt8)} (hm : (v, l) ∈ S) : FlIn W v l := by
  obtain ⟨F, h1, _⟩ := h.get i _ hi
  obtain ⟨ao, cap, hv, h2⟩ := h1.2 _ hm
  refine ⟨ao, cap, hv, ?_⟩
  rcases h2 with h2 | ⟨b, o, ha, hF, hc, hcell⟩
  · left; dsimp only at h2; rw [h2]; rfl
  · exact .inr ⟨b, o, ha, h1.1 b hF, hc, hcell⟩
theorem flags_nil (h : Zoo W0 W L) : Zoo W0 W (flagsT [] :: L) := h.bare _ ⟨fun _ h => h.elim, fun p hp => by simp at hp⟩
/-- flags in new memory -/
theorem Zoo.addFl {S : List (Value × List (List UInt8))} (h : Zoo W0 W L) (i : Nat) (hi : L[i]? = some (flagsT S)) {v : Value} {l : List (List UInt8)} (hb : Below W.heap.size W W') (hr : FlIn W' v l) (hf : ∀ g, v.ownBlock = some g → W.heap.size ≤ g) : Zoo W0 W' (L.set i (flagsT ((v, l) :: S))) := by
  obtain ⟨F, h1, hlow, hact⟩ := h.act i _ hi
  obtain ⟨ao, cap, hv, hr⟩ := hr
  refine hact _ (fun k => F k ∨ (W.heap.size ≤ k ∧ k < W'.heap.size)) W' ⟨fun k hk => ?_, fun p hp => ?_⟩ ⟨hb.os, hb.tape, hb.output, hb.size, fun k hk _ => hb.block k hk, fun k hk => hk.imp id (fun h => h.1)⟩
  · rcases hk with hk | hk
    · exact Nat.lt_of_lt_of_le (h1.1 k hk) hb.size
    · exact hk.2
  · rcases List.mem_cons.1 hp with rfl | hp
    · refine ⟨ao, cap, hv, ?_⟩
      rcases hr with hr | ⟨b, o, ha, hlt, hc, hcell⟩
      · exact .inl (List.eq_nil_of_length_eq_zero hr)
      · exact .inr ⟨b, o, ha, .inr ⟨hf b (by rw [hv, ha]; rfl), hlt⟩, hc, hcell⟩
    · obtain ⟨ao, cap, hv, h2⟩ := h1.2 p hp
      refine ⟨ao, cap, hv, h2.imp id ?_⟩
      rintro ⟨b, o, ha, hF, hc, hcell⟩
      exact ⟨b, o, ha, .inl hF, hc, fun i u hu => (hb.cell (p := ⟨b, o + i, none⟩) (h1.1 b hF)).trans (hcell i u hu)⟩
/-- things made since W beside those from before -/
theorem Zoo.join (h : Zoo W0 W L) (h2 : Zoo W W' L2) : Zoo W0 W' (L2 ++ L) := by
  obtain ⟨h0, P, h1, hP⟩ := h.below h2.bel
  obtain ⟨g0, Q, g1, hQ⟩ := h2
  obtain ⟨k0, P', k1, kP⟩ := h
  refine ⟨h0, Q ++ P', by rw [List.map_append, g1, k1], ⟨fun x hx => ?_, fun x hx k hk => ?_, ?_⟩⟩
  · rcases List.mem_append.1 hx with hx | hx
    · exact hQ.holds x hx
    · exact x.1.below (kP.holds x hx) g0
  · rcases List.mem_append.1 hx with hx | hx
    · exact Nat.le_trans k0.size (hQ.low x hx k hk)
    · exact kP.low x hx k hk
  · refine List.pairwise_append.2 ⟨hQ.apart, kP.apart, fun x hx y hy k hk1 hk2 => ?_⟩
    have a := hQ.low x hx k hk1
    have b := y.1.lt _ _ (kP.holds y hy) k hk2
    omega
theorem perm_lift {α β : Type} (f : α → β) : ∀ {L L' : List β}, L.Perm L' → ∀ P : List α, P.map f = L → ∃ P', P.Perm P' ∧ P'.map f = L' := fun h => by
  induction h with
  | nil => intro P hP; exact ⟨P, List.Perm.refl _, hP⟩
  | cons x _ ih =>
    intro P hP
    match P, hP with
    | p :: P, hP =>
      simp only [List.map_cons, List.cons.injEq] at hP
      obtain ⟨P', h1, h2⟩ := ih P hP.2
      exact ⟨p :: P', h1.cons p, by rw [List.map_cons, h2, hP.1]⟩
  | swap x y l =>
    intro P hP
    match P, hP with
    | p :: q :: P, hP =>
      simp only [List.map_cons, List.cons.injEq] at hP
      exact ⟨q :: p :: P, List.Perm.swap q p P, by simp only [List.map_cons, hP.1, hP.2.1, hP.2.2]⟩
  | trans _ _ ih1 ih2 =>
    intro P hP
    obtain ⟨P1, h1, h2⟩ := ih1 P hP
    obtain ⟨P2, h3, h4⟩ := ih2 P1 h2
    exact ⟨P2, h1.trans h3, h4⟩
theorem Zoo.perm {L' : List Th} (h : Zoo W0 W L) (hp : L.Perm L') : Zoo W0 W L' := by
  obtain ⟨h0, P, h1, h2⟩ := h
  obtain ⟨P', hP, h3⟩ := perm_lift Prod.fst hp P h1
  exact ⟨h0, P', h3, ⟨fun x hx => h2.holds x (hP.mem_iff.2 hx), fun x hx => h2.low x (hP.mem_iff.2 hx), hP.pairwise h2.apart (fun h k h1 h2 => h k h2 h1)⟩⟩
/-- the flags of these letters stand there -/
def HasL (S : List (Value × List (List UInt8))) (rows : List LtV) : Prop := ∀ y ∈ rows, (y.v, y.x.flags) ∈ S
def HasB (S : List (Value × List (List UInt8))) (bs : List BxV) : Prop := ∀ y ∈ bs, HasL S y.rows
theorem Zoo.ltsOk {S : List (Value × List (List UInt8))} {rows : List LtV} (h : Zoo W0 W L) (i : Nat) (hi : L[i]? = some (flagsT S)) (hh : HasL S rows) : LtsOk W rows := fun y hy => h.fl i hi (hh y hy)
end Go.Proofs.Ytcnebfmlelcliaa
namespace Go.Proofs.Ytcnebfmlelcliaa
set_option linter.unusedSimpArgs false
open Go.RowKit
attribute [local go_sem ↓] Go.wp_at_zero Go.wp_at_succ

def bxAgg (y : BxV) : Value := .agg (bxCells y).toArray
/-- rows of letters that say the same -/
def SameL (l l' : List LtV) : Prop := l.map LtV.x = l'.map LtV.x
theorem SameL.len {l l' : List LtV} (h : SameL l l') : l.length = l'.length := by have := congrArg List.length h; simpa using this
/-- a cell of a block of one's own is written -/
theorem Zoo.setBox {W0 W : World} {L : List Th} {B : Nat} {C : List Value} {t : TypeId} (h : Zoo W0 W L) (i : Nat) (hi : L[i]? = some (boxT B C.toArray t)) (j : Nat) (u : Value) : Zoo W0 (W.setCell ⟨B, j, none⟩ u) (L.set i (boxT B (C.set j u).toArray t)) := by
  obtain ⟨F, ⟨h1, hF⟩, hlow, hact⟩ := h.act i _ hi
  exact hact _ F _ ⟨cells_set h1 j u, hF⟩ ⟨rfl, rfl, rfl, by simp, fun k hk hn => heap_setCell_other W ⟨B, j, none⟩ k _ (fun e => hn ((hF k).2 e)), fun k hk => .inl hk⟩
def CloneBoxRet (W : World) (y : BxV) (e : Ending) (w' : World) : Prop := ∃ (z : BxV) (S : List (Value × List (List UInt8))), e = .returned (bxAgg z) ∧ Hid (z.b = y.b ∧ HasL S z.rows) ∧ Hid (Zoo W w' [ltT.row z.v z.rows, flagsT S])
set_option maxRecDepth 100000 in
set_option maxHeartbeats 8000000 in
theorem cloneBox_any (y : BxV) (W : World) (hin : LtsIn W y.v y.rows) (hl : y.rows.length ≤ 100000) (hfl : ∀ z ∈ y.rows, z.x.flags.length ≤ 100000) :
    Calls Try.prog 53 #[bxAgg y] W (CloneBoxRet W y) := by
  obtain ⟨name, val, next, high, rows, a, c⟩ := y
  dsimp only at hl hfl
  have hin0 := Lib.hid (fun (W' : World) (h : Below W.heap.size W W') => hin.below h)
  have hz1 := ((Zoo.nil W).newBox [.string name, .int .u64 val, .int .u64 next, .int .u64 high, .slice a rows.length c].toArray 28).newBox [.string ⟨#[]⟩, .int .u64 0, .int .u64 0, .int .u64 0, .slice none 0 0].toArray 28
  have hs1 : (W.alloc (.cells [.string name, .int .u64 val, .int .u64 next, .int .u64 high, .slice a rows.length c].toArray 28)).heap.size = W.heap.size + 1 := by simp
  rw [hs1] at hz1
  have hc := cloneLt_any (hin0.out _ hz1.bel).1 hl
  replace hz1 := Lib.hid hz1
  replace hc := Lib.hid hc
  replace hfl := Lib.hid hfl
  clear hin hs1
  unfold bxAgg bxCells BxV.v
  dsimp only
  go_enter Try.func53, Try.ntmps53
  go_wp2_with fail
  refine hc.out.mono ?_
  rintro e w2 ⟨v2, rfl, ho2, hb2, hf2⟩
  have hz2 := hz1.out.newRow hb2.out ho2.out hf2.out
  obtain ⟨a2, c2, hv2⟩ := ho2.out.len
  obtain ⟨hbx, -⟩ := hz2.box 2 rfl
  have c4 : w2.cell? ⟨W.heap.size, 4, none⟩ = some (.slice a rows.length c) := box_cell hbx 4
  have f4 := box_free hbx 4
  have hz3 := hz2.setBox 2 rfl 4 v2
  subst hv2
  replace hz3 := Lib.hid hz3
  clear hc hz1 hz2 ho2 hb2 hf2 hbx
  go_wp2_with fail
  replace hz3 : Hid (Zoo W (w2.setCell ⟨W.heap.size, 4, none⟩ (.slice a2 rows.length c2)) [ltT.row (.slice a2 rows.length c2) rows, boxT (W.heap.size + 1) [.string ⟨#[]⟩, .int .u64 0, .int .u64 0, .int .u64 0, .slice none 0 0].toArray 28, boxT W.heap.size [.string name, .int .u64 val, .int .u64 next, .int .u64 high, .slice a2 rows.length c2].toArray 28]) := hz3
  have hz4 := Lib.hid ((flags_nil hz3.out).perm (List.Perm.swap _ _ _))
  clear hz3 c4 f4
  generalize hB1 : W.heap.size = B1 at hz4 ⊢
  replace hB1 := Lib.hid hB1
  go_loopw [11] (fun v11 wr => ∃ (k : Nat) (done : List LtV) (S : List (Value × List (List UInt8))), v11 = .int .i64 k ∧ k ≤ rows.length ∧ Hid (done.length = k ∧ SameL done (rows.take k) ∧ HasL S done) ∧ Hid (Zoo W wr [ltT.row (.slice a2 rows.length c2) (done ++ rows.drop k), flagsT S, boxT (B1 + 1) [.string ⟨#[]⟩, .int .u64 0, .int .u64 0, .int .u64 0, .slice none 0 0].toArray 28, boxT B1 [.string name, .int .u64 val, .int .u64 next, .int .u64 high, .slice a2 rows.length c2].toArray 28])) (fun v11 _ => rows.length - (intOf v11).toNat)
  case atStart => exact ⟨0, [], [], rfl, Nat.zero_le _, Lib.hid ⟨rfl, rfl, fun y hy => by simp at hy⟩, hz4⟩
  case round =>
    clear hz4
    obtain ⟨k, done, S, rfl, hk, hd, hz⟩ := hrel
    have hlen : (done ++ rows.drop k).length = rows.length := by rw [List.length_append, hd.out.1, List.length_drop]; omega
    by_cases hlt : k < rows.length
    · have hl1 : (k : Int) < (rows.length : Int) := by omega
      have hget : (done ++ rows.drop k)[k]'(by omega) = rows[k] := by
        rw [List.getElem_append_right (by rw [hd.out.1]; exact Nat.le_refl _), List.getElem_drop]
        congr 1
        rw [hd.out.1]; omega
      obtain ⟨x, hx⟩ : ∃ x, rows[k] = x := ⟨_, rfl⟩
      have hxm : x ∈ rows := by rw [← hx]; exact List.getElem_mem hlt
      obtain ⟨hbx, -⟩ := hz.out.box 3 rfl
      have c4 : wr.cell? ⟨B1, 4, none⟩ = some (.slice a2 rows.length c2) := box_cell hbx 4
      obtain ⟨g, cap, hv, hcap, hg, hcells⟩ := (hz.out.own 0 rfl).cells (j := k) (by omega)
      rw [hlen] at hv hcap
      injection hv with e1 e2 e3
      subst e1 e3
      have r1 := hcells 1 (by decide)
      rw [hget, hx] at r1
      replace r1 : wr.cell? ⟨g, k * 5 + 1, none⟩ = some x.v := r1
      have hfr := (hin0.out wr hz.out.bel).2 x hxm
      have hc := Lib.hid (cloneFl_any (hfr.rd.below ((Below.refl _ wr).drew)) (hfl.out x hxm))
      obtain ⟨y, xa, xc⟩ := x
      unfold LtV.v at hc r1
      dsimp only at hc r1
      have hbw : (g : Nat) = g := rfl
      clear hcells hbx hfr
      replace hx := Lib.hid hx
      replace hget := Lib.hid hget
      replace hlen := Lib.hid hlen
      go_wp2_with fail
      refine wp_region_hd (fun w' => w'.cell? ⟨B1, 4, none⟩ = some (.slice (some ⟨g, 0, none⟩) rows.length c2) ∧ w'.cell? ⟨g, k * 5 + 1, none⟩ = some (.slice xa y.flags.length xc)) 10 3 (by kernel_rfl) rfl ⟨by kernel_rfl, by kernel_rfl, by kernel_rfl, by decide⟩ ⟨c4, r1⟩ (fun hok hS0 => ?_)
      refine Hd.take (i := 0) (v := ?tv1) hok rfl (by kernel_rfl) (fun _ _ _ h => h) (Or.inl ⟨by rfl, ?ty1⟩) (by assumption) ?tr1
      case ty1 => (intro w hSw; (try dsimp only at hSw); go_simp; (try with_reducible rfl))
      try simp only [List.getElem_toArray, List.getElem_cons_succ, List.getElem_cons_zero, Act.put, List.setIfInBounds_toArray, List.set_cons_zero, List.set_cons_succ]
      refine Hd.take (i := 1) (v := ?tv2) hok rfl (by kernel_rfl) (fun _ _ _ h => h) (Or.inl ⟨by rfl, ?ty2⟩) (by assumption) ?tr2
      case ty2 => (intro w hSw; (try dsimp only at hSw); go_simp; (try with_reducible rfl))
      try simp only [List.getElem_toArray, List.getElem_cons_succ, List.getElem_cons_zero, Act.put, List.setIfInBounds_toArray, List.set_cons_zero, List.set_cons_succ]
      refine Hd.take (i := 2) (v := ?tv3) hok rfl (by kernel_rfl) (fun _ _ _ h => h) (Or.inl ⟨by rfl, ?ty3⟩) (by assumption) ?tr3
      case ty3 => (intro w hSw; (try dsimp only at hSw); go_simp; (try with_reducible rfl))
      try simp only [List.getElem_toArray, List.getElem_cons_succ, List.getElem_cons_zero, Act.put, List.setIfInBounds_toArray, List.set_cons_zero, List.set_cons_succ]
      refine Hd.take (i := 3) (v := ?tv4) hok rfl (by kernel_rfl) (fun _ _ _ h => h) (Or.inl ⟨by rfl, ?ty4⟩) (by assumption) ?tr4
      case ty4 => (intro w hSw; (try dsimp only at hSw); go_simp; (try with_reducible rfl))
      try simp only [List.getElem_toArray, List.getElem_cons_succ, List.getElem_cons_zero, Act.put, List.setIfInBounds_toArray, List.set_cons_zero, List.set_cons_succ]
      refine Hd.take (i := 4) (v := ?tv5) hok rfl (by kernel_rfl) (fun _ _ _ h => h) (Or.inl ⟨by rfl, ?ty5⟩) (by assumption) ?tr5
      case ty5 => (intro w hSw; (try dsimp only at hSw); go_simp; (try with_reducible rfl))
      try simp only [List.getElem_toArray, List.getElem_cons_succ, List.getElem_cons_zero, Act.put, List.setIfInBounds_toArray, List.set_cons_zero, List.set_cons_succ]
      refine Hd.take (i := 5) (v := ?tv6) hok rfl (by kernel_rfl) (fun _ _ _ h => h) (Or.inl ⟨by rfl, ?ty6⟩) (by assumption) ?tr6
      case ty6 => (intro w hSw; (try dsimp only at hSw); go_simp; (try with_reducible rfl))
      try simp only [List.getElem_toArray, List.getElem_cons_succ, List.getElem_cons_zero, Act.put, List.setIfInBounds_toArray, List.set_cons_zero, List.set_cons_succ]
      refine Hd.take (i := 6) (v := ?tv7) hok rfl (by kernel_rfl) (fun _ _ _ h => h) (Or.inl ⟨by rfl, ?ty7⟩) (by assumption) ?tr7
      case ty7 => (intro w hSw; (try dsimp only at hSw); go_simp; (try with_reducible rfl))
      try simp only [List.getElem_toArray, List.getElem_cons_succ, List.getElem_cons_zero, Act.put, List.setIfInBounds_toArray, List.set_cons_zero, List.set_cons_succ]
      refine Hd.take (i := 7) (v := ?tv8) hok rfl (by kernel_rfl) (fun _ _ _ h => h) (Or.inl ⟨by rfl, ?ty8⟩) (by assumption) ?tr8
      case ty8 => (intro w hSw; (try dsimp only at hSw); go_simp; (try with_reducible rfl))
      try simp only [List.getElem_toArray, List.getElem_cons_succ, List.getElem_cons_zero, Act.put, List.setIfInBounds_toArray, List.set_cons_zero, List.set_cons_succ]
      refine Hd.take (i := 8) (v := ?tv9) hok rfl (by kernel_rfl) (fun _ _ _ h => h) (Or.inl ⟨by rfl, ?ty9⟩) (by assumption) ?tr9
      case ty9 => (intro w hSw; (try dsimp only at hSw); go_simp; (try with_reducible rfl))
      try simp only [List.getElem_toArray, List.getElem_cons_succ, List.getElem_cons_zero, Act.put, List.setIfInBounds_toArray, List.set_cons_zero, List.set_cons_succ]
      refine Hd.one (i := 9) rfl (by kernel_rfl) (fun K hK => ?_)
      go_simp
      refine hc.out.mono ?_
      rintro e w3 ⟨v3, rfl, ho3, hb3, hf3⟩
      dsimp only
      refine hK _ _ ⟨(hb3.out.cell (p := ⟨B1, 4, none⟩) (by have := (World.block_lt_of_cell? _ _ c4); exact this)).trans c4, (hb3.out.cell (p := ⟨g, k * 5 + 1, none⟩) hg).trans r1⟩ ?_
      clear hK K
      try simp only [List.getElem_toArray, List.getElem_cons_succ, List.getElem_cons_zero, Act.put, List.setIfInBounds_toArray, List.set_cons_zero, List.set_cons_succ]
      refine Hd.done (by kernel_rfl) ?_
      simp only [List.drop_succ_cons, List.drop_zero]
      obtain ⟨a3, c3, hv3⟩ := ho3.out.len
      have hz5 := hz.out.drew.addFl 1 rfl hb3.out (FlIn.of_own ho3.out) hf3.out
      obtain ⟨g', cap', hv, -, -, -, hfr, hz6⟩ := hz5.putField 0 rfl k (by rw [hlen.out]; exact hlt) 1 (by decide) v3 ⟨y, a3, c3⟩ (by rw [hget.out, hx.out, hv3]; rfl)
      rw [hlen.out] at hv
      injection hv with e1 e2 e3
      injection e1 with e1
      injection e1 with e1
      subst e1
      have f1 := hfr (k * 5 + 1)
      have r3 := (hb3.out.cell (p := ⟨g, k * 5 + 1, none⟩) hg).trans r1
      have hd2 : Hid ((done ++ [(⟨y, a3, c3⟩ : LtV)]).length = k + 1 ∧ SameL (done ++ [(⟨y, a3, c3⟩ : LtV)]) (rows.take (k + 1)) ∧ HasL ((v3, y.flags) :: S) (done ++ [(⟨y, a3, c3⟩ : LtV)])) := Lib.hid (by
        refine ⟨by rw [List.length_append, hd.out.1]; rfl, ?_, fun z hz => ?_⟩
        · have := hd.out.2.1
          unfold SameL at this ⊢
          rw [List.take_succ_eq_append_getElem hlt, List.map_append, List.map_append, this, hx.out]; rfl
        · rcases List.mem_append.1 hz with hz | hz
          · exact List.mem_cons_of_mem _ (hd.out.2.2 z hz)
          · simp only [List.mem_singleton] at hz
            subst hz
            exact List.mem_cons.2 (.inl (by rw [hv3]; rfl)))
      have hst : (done ++ rows.drop k).set k ⟨y, a3, c3⟩ = (done ++ [(⟨y, a3, c3⟩ : LtV)]) ++ rows.drop (k + 1) := by
        rw [List.set_append_right _ _ (by rw [hd.out.1]; exact Nat.le_refl _), hd.out.1, Nat.sub_self, List.drop_eq_getElem_cons hlt, List.append_assoc]; rfl
      have hz7 : Hid (Zoo W (w3.setCell ⟨g, k * 5 + 1, none⟩ v3) [ltT.row (.slice (some ⟨g, 0, none⟩) rows.length c2) ((done ++ [(⟨y, a3, c3⟩ : LtV)]) ++ rows.drop (k + 1)), flagsT ((v3, y.flags) :: S), boxT (B1 + 1) [.string ⟨#[]⟩, .int .u64 0, .int .u64 0, .int .u64 0, .slice none 0 0].toArray 28, boxT B1 [.string name, .int .u64 val, .int .u64 next, .int .u64 high, .slice (some ⟨g, 0, none⟩) rows.length c2].toArray 28]) := Lib.hid (by rw [← hst]; exact hz6)
      subst hv3
      clear hz hz5 hz6 hfr hst hc ho3 hb3 hf3 hok hS0 c4 r1 hd hx hget hlen
      go_wp2_with fail
      go_roundw
      case rel => exact ⟨k + 1, _, _, by go_num, by omega, hd2, hz7⟩
      case measure => simp [intOf] <;> omega
    · have hl1 : (rows.length : Int) ≤ (k : Int) := by omega
      obtain rfl : k = rows.length := by omega
      obtain ⟨hbx, -⟩ := hz.out.box 3 rfl
      obtain ⟨hby, -⟩ := hz.out.box 2 rfl
      have c0 : wr.cell? ⟨B1, 0, none⟩ = some (.string name) := box_cell hbx 0
      have c1 : wr.cell? ⟨B1, 1, none⟩ = some (.int .u64 val) := box_cell hbx 1
      have c2' : wr.cell? ⟨B1, 2, none⟩ = some (.int .u64 next) := box_cell hbx 2
      have c3 : wr.cell? ⟨B1, 3, none⟩ = some (.int .u64 high) := box_cell hbx 3
      have c4 : wr.cell? ⟨B1, 4, none⟩ = some (.slice a2 rows.length c2) := box_cell hbx 4
      have d0 : wr.cell? ⟨B1 + 1, 0, none⟩ = some (.string ⟨#[]⟩) := box_cell hby 0
      have d1 : wr.cell? ⟨B1 + 1, 1, none⟩ = some (.int .u64 0) := box_cell hby 1
      have d2 : wr.cell? ⟨B1 + 1, 2, none⟩ = some (.int .u64 0) := box_cell hby 2
      have d3 : wr.cell? ⟨B1 + 1, 3, none⟩ = some (.int .u64 0) := box_cell hby 3
      have d4 : wr.cell? ⟨B1 + 1, 4, none⟩ = some (.slice none 0 0) := box_cell hby 4
      have f0 := box_free hby
      have hz5 := ((((hz.out.setBox 2 rfl 0 (.string name)).setBox 2 rfl 1 (.int .u64 val)).setBox 2 rfl 2 (.int .u64 next)).setBox 2 rfl 3 (.int .u64 high)).setBox 2 rfl 4 (.slice a2 rows.length c2)
      obtain ⟨hbz, -⟩ := hz5.box 2 rfl
      rw [List.drop_length, List.append_nil] at hz5
      have hz6 := Lib.hid (hz5.sub (L' := [ltT.row (.slice a2 rows.length c2) done, flagsT S]) (by simp))
      replace hbz := Lib.hid hbz
      clear hz5 hz hbx hby
      go_wp2_with fail
      refine bodyPost_ret (results_cell_row rfl _ _ _ 28 _ (0, 0) _ rfl hbz.out Try.underlying28 rfl rfl) rfl ?_
      have hdl : done.length = rows.length := hd.out.1
      have hsame := hd.out.2.1
      rw [List.take_length] at hsame
      refine ⟨⟨name, val, next, high, done, a2, c2⟩, S, by simp [bxAgg, bxCells, BxV.v, hdl], Lib.hid ⟨?_, hd.out.2.2⟩, Lib.hid ?_⟩
      · unfold BxV.b
        dsimp only
        rw [show done.map LtV.x = rows.map LtV.x from hsame]
      · unfold BxV.v
        dsimp only
        rw [hdl]; exact hz6.out
end Go.Proofs.Ytcnebfmlelcliaa
namespace Go.Proofs.Ytcnebfmlelcliaa
set_option linter.unusedSimpArgs false
open Go.RowKit
attribute [local go_sem ↓] Go.wp_at_zero Go.wp_at_succ

structure Sized1 (m : Ml) : Prop where
  boxes : m.boxes.length ≤ 1000
  homes : m.homes.length ≤ 1000
  seats : m.seats.length ≤ 1000
  letters : ∀ b ∈ m.boxes, b.letters.length ≤ 10000
  flags : ∀ b ∈ m.boxes, ∀ x ∈ b.letters, x.flags.length ≤ 10000
end Go.Proofs.Ytcnebfmlelcliaa
namespace Go.Proofs.Ytcnebfmlelcliaa
open Go.RowKit

/-- the place of the first that p says, or -1 -/
def optI (o : Option Nat) : Int := match o with
  | some i => (i : Int)
  | none => -1
def idxI {α : Type} (p : α → Bool) (l : List α) : Int := optI (l.findIdx? p)
theorem idxI_some {α : Type} {p : α → Bool} {l : List α} {i : Nat} (hi : i < l.length) (hp : p l[i] = true) (hno : ∀ k (hk : k < i), p (l[k]'(by omega)) = false) : idxI p l = (i : Int) := by
  have : l.findIdx? p = some i := List.findIdx?_eq_some_iff_getElem.2 ⟨hi, hp, fun k hk => by simp [hno k hk]⟩
  unfold idxI; rw [this]; rfl
theorem idxI_none {α : Type} {p : α → Bool} {l : List α} (hno : ∀ k (hk : k < l.length), p l[k] = false) : idxI p l = -1 := by
  have : l.findIdx? p = none := List.findIdx?_eq_none_iff.2 (fun x hx => by
    obtain ⟨k, hk, rfl⟩ := List.mem_iff_getElem.1 hx
    exact hno k hk)
  unfold idxI; rw [this]; rfl
theorem atOne_any (x : BxV) (name : ByteArray) (X : Nat) (W : World) (hX : W.cell? ⟨X, 0, none⟩ = some (.string name)) :
    Calls Try.prog 63 #[.agg #[.string x.name, .int .u64 x.validity, .int .u64 x.next, .int .u64 x.high, .slice x.a x.rows.length x.c], .pointer (some ⟨X, 0, none⟩)] W fun e w' => e = .returned (.bool (x.name.toList == name.toList)) ∧ Hid (Below W.heap.size W w') := by
  have hXlt : X < W.heap.size := World.block_lt_of_cell? W ⟨X, 0, none⟩ hX
  have hXs : X ≠ W.heap.size := by omega
  go_enter Try.func63, Try.ntmps63
  go_wp2_with fail
  all_goals
    go_ret
    exact ⟨ret_bool (by first | rfl | (simp)), Lib.hid ((Below.refl _ W).alloc (Nat.le_refl _) _)⟩
set_option maxRecDepth 100000 in
set_option maxHeartbeats 4000000 in
theorem atIdx_any (v : Value) (l : List BxV) (name : ByteArray) (X : Nat) (hlen : l.length ≤ 100000) (W : World) (ho : Rd W v l.length (bxT.cells l)) (hX : W.cell? ⟨X, 0, none⟩ = some (.string name)) :
    Calls Try.prog 62 #[v, .func (.func 63) #[] #[.pointer (some ⟨X, 0, none⟩)]] W fun e w' => ∃ r : Int, e = .returned (.int .i64 r) ∧ Hid (r = idxI (fun x => x.name.toList == name.toList) l) ∧ Hid (Below W.heap.size W w') := by
  have hXlt : X < W.heap.size := World.block_lt_of_cell? W ⟨X, 0, none⟩ hX
  have hf := Lib.hid (fun x W2 (h : Below W.heap.size W W2) => atOne_any x name X W2 ((h.cell (p := ⟨X, 0, none⟩) hXlt).trans hX))
  obtain ⟨ao, cap, hv, -⟩ := id ho
  subst hv
  replace ho := Lib.hid ho
  obtain ⟨p, hp⟩ : ∃ p : BxV → Bool, p = (fun x => x.name.toList == name.toList) := ⟨_, rfl⟩
  rw [← hp]
  have hpx : Hid (∀ x, (x.name.toList == name.toList) = p x) := Lib.hid (fun x => by rw [hp])
  clear hp hX hXlt
  go_enter Try.func62, Try.ntmps62
  go_wp2_with fail
  go_loopw [8] (fun v8 wr => ∃ i : Nat, v8 = .int .i64 i ∧ i ≤ l.length ∧ Hid (∀ k (_ : k < i) (h2 : k < l.length), p l[k] = false) ∧ Hid (Below W.heap.size W wr)) (fun v8 _ => l.length - (intOf v8).toNat)
  case atStart => exact ⟨0, rfl, Nat.zero_le _, Lib.hid (fun k hk => by omega), Lib.hid (Below.refl _ _)⟩
  case round =>
    obtain ⟨i, rfl, hi, hno, hb⟩ := hrel
    by_cases hlt : i < l.length
    · obtain ⟨b, o, cap', hv, -, hblt, hcells⟩ := bxT.rd_cells (ho.out.below hb.out) hlt
      injection hv with hv1 hv2 hv3
      subst hv1 hv3
      obtain ⟨x, hx⟩ : ∃ x, l[i] = x := ⟨_, rfl⟩
      have r0 : wr.cell? ⟨b, o + i * 5, none⟩ = some (.string x.name) := by have := hcells 0 _ (by rw [hx]; rfl); rwa [show o + (i * bxT.K + 0) = o + i * 5 from by simp only [bxT]; omega] at this
      have r1 : wr.cell? ⟨b, o + i * 5 + 1, none⟩ = some (.int .u64 x.validity) := by have := hcells 1 _ (by rw [hx]; rfl); rwa [show o + (i * bxT.K + 1) = o + i * 5 + 1 from by simp only [bxT]; omega] at this
      have r2 : wr.cell? ⟨b, o + i * 5 + 2, none⟩ = some (.int .u64 x.next) := by have := hcells 2 _ (by rw [hx]; rfl); rwa [show o + (i * bxT.K + 2) = o + i * 5 + 2 from by simp only [bxT]; omega] at this
      have r3 : wr.cell? ⟨b, o + i * 5 + 3, none⟩ = some (.int .u64 x.high) := by have := hcells 3 _ (by rw [hx]; rfl); rwa [show o + (i * bxT.K + 3) = o + i * 5 + 3 from by simp only [bxT]; omega] at this
      have r4 : wr.cell? ⟨b, o + i * 5 + 4, none⟩ = some (.slice x.a x.rows.length x.c) := by have := hcells 4 _ (by rw [hx]; rfl); rwa [show o + (i * bxT.K + 4) = o + i * 5 + 4 from by simp only [bxT]; omega] at this
      have hcall := hf.out x wr hb.out
      rw [hpx.out x] at hcall
      have hl1 : (i : Int) < (l.length : Int) := by omega
      cases hq : p x with
      | true =>
        have hfound := Lib.hid (idxI_some hlt (by rw [hx]; exact hq) (fun k hk => hno.out k hk (by omega)) : idxI p l = (i : Int))
        rw [hq] at hcall
        replace hcall := Lib.hid hcall
        replace hx := Lib.hid hx
        clear hcells hq hno
        go_wp2_with fail
        refine hcall.out.mono ?_
        rintro e w1 ⟨rfl, hb1⟩
        have hB := Lib.hid (hb.out.trans (hb1.out.mono hb.out.size))
        clear hcall hb1
        go_wp2_with fail
        go_ret
        exact ⟨_, rfl, Lib.hid hfound.out.symm, hB⟩
      | false =>
        have hno2 : Hid (∀ k (_ : k < i + 1) (h2 : k < l.length), p l[k] = false) := Lib.hid (fun k hk h2 => by
          by_cases e : k = i
          · subst e; rw [hx]; exact hq
          · exact hno.out k (by omega) h2)
        rw [hq] at hcall
        replace hcall := Lib.hid hcall
        replace hx := Lib.hid hx
        clear hcells hq hno
        go_wp2_with fail
        refine hcall.out.mono ?_
        rintro e w1 ⟨rfl, hb1⟩
        have hB := Lib.hid (hb.out.trans (hb1.out.mono hb.out.size))
        clear hcall hb1
        go_wp2_with fail
        go_roundw
        case rel => exact ⟨i + 1, by go_num, by omega, hno2, hB⟩
        case measure => simp [intOf] <;> omega
    · have hnone := Lib.hid (idxI_none (fun k hk => hno.out k (by omega) hk) : idxI p l = -1)
      have hl1 : (l.length : Int) ≤ (i : Int) := by omega
      go_wp2_with fail
      go_ret
      exact ⟨_, rfl, Lib.hid hnone.out.symm, hb⟩
end Go.Proofs.Ytcnebfmlelcliaa
namespace Go.Proofs.Ytcnebfmlelcliaa
set_option linter.unusedSimpArgs false
open Go.RowKit

theorem cell_one (w : World) (v : Value) (t : TypeId) (n : Nat) (h : w.heap.size = n) : (w.alloc (.cells #[v] t)).cell? ⟨n, 0, none⟩ = some v := by subst h; simp
def IntBelow (W : World) (r : Int) (e : Ending) (w' : World) : Prop := e = .returned (.int .i64 r) ∧ Hid (Below W.heap.size W w')
def atB (name : ByteArray) (bs : List BxV) : Int := idxI (fun x => x.name.toList == name.toList) bs
set_option maxRecDepth 100000 in
set_option maxHeartbeats 4000000 in
theorem at_any {W : World} (ab ah as_ : Option Addr) (cb nh ch ns cs nv nse sw : Nat) (bs : List BxV) (name : ByteArray) (hh : Rd W (.slice ab bs.length cb) bs.length (bxT.cells bs)) (hl : bs.length ≤ 100000) :
    Calls Try.prog 52 #[mlVal (.slice ab bs.length cb) nv (.slice ah nh ch) (.slice as_ ns cs) nse sw, .string name] W (IntBelow W (atB name bs)) := by
  have hb : Below W.heap.size W ((W.alloc (.cells #[.slice ab bs.length cb, .int .u64 nv, .slice ah nh ch, .slice as_ ns cs, .int .u64 nse, .int .u64 sw] 47)).alloc (.cells #[.string name] 9)) := ((Below.refl _ W).alloc (Nat.le_refl _) _).alloc (by simp) _
  have hc := Lib.hid (atIdx_any (.slice ab bs.length cb) bs name (W.heap.size + 1) hl _ (Rd.below hh hb) (cell_one _ _ _ _ (by simp)))
  replace hb := Lib.hid hb
  unfold mlVal
  go_enter Try.func52, Try.ntmps52
  go_wp2_with fail
  refine hc.out.mono ?_
  rintro e w2 ⟨r, rfl, hr, hb2⟩
  have hB := Lib.hid (hb.out.trans (hb2.out.mono hb.out.size))
  clear hc hb2
  go_wp2_with fail
  go_ret
  exact ⟨ret_int hr.out, hB⟩
end Go.Proofs.Ytcnebfmlelcliaa
namespace Go.Proofs.Ytcnebfmlelcliaa
open Go.RowKit

theorem heap_setCells {g : Nat} {t : TypeId} : ∀ (vs : List Value) (o : Nat) (C : List Value) (W : World), W.heap[g]? = some (.cells C.toArray t (0, 0)) → o + vs.length ≤ C.length → (W.setCells g o vs).heap[g]? = some (.cells (C.take o ++ vs ++ C.drop (o + vs.length)).toArray t (0, 0))
  | [], o, C, W, h, hl => by simpa [World.setCells] using h
  | v :: r, o, C, W, h, hl => by
    simp only [List.length_cons] at hl
    rw [World.setCells, heap_setCells r (o + 1) (C.set o v) _ (cells_set h o v) (by rw [List.length_set]; omega)]
    have e : (C.set o v).take (o + 1) ++ r ++ (C.set o v).drop (o + 1 + r.length) = C.take o ++ (v :: r) ++ C.drop (o + (v :: r).length) := by
      rw [List.drop_set_of_lt (by omega), List.take_set]
      have e1 : (C.take (o + 1)).set o v = C.take o ++ [v] := by
        rw [List.take_succ_eq_append_getElem (by omega), List.set_append_right _ _ (by rw [List.length_take]; omega), List.length_take, show o - min o C.length = 0 from by omega]; rfl
      rw [e1, List.append_assoc, List.append_assoc, List.append_assoc, List.length_cons, show o + 1 + r.length = o + (r.length + 1) from by omega]; rfl
    rw [e]
theorem KeptB.sets {W : World} {g : Nat} : ∀ (vs : List Value) (o : Nat) {W' : World}, KeptB W g W' → KeptB W g (W'.setCells g o vs)
  | [], _, _, h => h
  | v :: r, o, _, h => KeptB.sets r (o + 1) (h.set o v)
section
variable {α : Type} {R : RT α}
theorem RT.zeroV (R : RT α) (W : World) : (zeroValue R.t).run Try.prog W = .ok R.z W := by
  obtain ⟨i, hi, hz, -, -⟩ := info_parts R.info
  simp [zeroValue, typeInfo, hi, hz]
theorem RT.zeroCells (R : RT α) (zr : α) (hz : R.enc zr = R.z.cells.toList) (n : Nat) : (Builtin.zeroCells R.z.cells n).toList = R.cells (List.replicate n zr) := by
  have hK := R.pos
  have hzs := R.zs
  have hl : (Builtin.zeroCells R.z.cells n).toList.length = n * R.K := by simp [Builtin.zeroCells, hzs]
  apply List.ext_getElem?
  intro i
  by_cases hi : i < n * R.K
  · obtain ⟨m, q, hq, rfl⟩ : ∃ m q, q < R.K ∧ i = m * R.K + q := ⟨i / R.K, i % R.K, Nat.mod_lt _ hK, by rw [Nat.mul_comm]; exact (Nat.div_add_mod i R.K).symm⟩
    have hm : m < n := by
      rcases Nat.lt_or_ge m n with h1 | h1
      · exact h1
      · have := Nat.mul_le_mul_right R.K h1; omega
    rw [R.cells_get _ m (by rw [List.length_replicate]; exact hm) q hq, List.getElem_replicate, hz]
    simp only [Builtin.zeroCells, Array.toList_map, Array.toList_range, List.getElem?_map, hzs]
    rw [List.getElem?_range hi, Option.map_some, show (m * R.K + q) % R.K = q from by rw [Nat.mul_comm, Nat.mul_add_mod, Nat.mod_eq_of_lt hq], getElem!_pos _ _ (by rw [hzs]; exact hq), Array.getElem?_toList, Array.getElem?_eq_getElem (by rw [hzs]; exact hq)]
  · rw [List.getElem?_eq_none (by omega), List.getElem?_eq_none (by rw [R.cells_len, List.length_replicate]; omega)]
/-- 'clear(s[i:])' of a row -/
theorem RT.PR.clear {W : World} {g : Nat} {l : List α} {rest : List Value} (h : R.PR W g l rest) (zr : α) (hz : R.enc zr = R.z.cells.toList) (i n : Nat) (hn : 0 < n) (hi : i + n = l.length) (c : Nat) (ty : TypeId) :
    (Builtin.clear_ #[R.ts] ty #[.slice (some ⟨g, i * R.K, none⟩) n c]).run Try.prog W = .ok (.tuple #[]) (W.setCells g (i * R.K) (R.cells (List.replicate n zr))) := by
  have hK := R.pos
  have hln : (R.cells (List.replicate n zr)).length = n * R.K := by rw [R.cells_len, List.length_replicate]
  have hll : i * R.K + n * R.K = l.length * R.K := by rw [← hi, Nat.add_mul]
  have hst := run_storeCells_cells (P := Try.prog) g (i * R.K) (R.cells (List.replicate n zr)) 0 W (fun j hj => by
    rw [hln] at hj
    rw [Nat.add_zero, cell_at h]
    rw [List.getElem?_toArray, List.getElem?_append_left (by rw [R.cells_len]; omega)]
    rw [List.getElem?_eq_getElem (by rw [R.cells_len]; omega)]; rfl) (fun j _ => h.free _) (R.cells_one _)
  simp only [Nat.add_zero] at hst
  obtain ⟨m, rfl⟩ : ∃ m, n = m + 1 := ⟨n - 1, by omega⟩
  simp [Builtin.clear_, run_underlying R.und, R.zeroV, R.zeroCells zr hz, hst]
theorem RT.PR.cleared {W : World} {g : Nat} {l : List α} {rest : List Value} (h : R.PR W g l rest) (zr : α) (i n : Nat) (hi : i + n = l.length) : R.PR (W.setCells g (i * R.K) (R.cells (List.replicate n zr))) g (l.take i ++ List.replicate n zr) rest := by
  have hll : i * R.K + n * R.K = l.length * R.K := by rw [← hi, Nat.add_mul]
  have hln : (R.cells (List.replicate n zr)).length = n * R.K := by rw [R.cells_len, List.length_replicate]
  unfold RT.PR
  rw [heap_setCells _ _ _ _ h (by rw [hln, List.length_append, R.cells_len]; omega), hln, hll]
  have e1 : R.cells l = R.cells (l.take i) ++ R.cells (l.drop i) := by rw [← R.cells_app, List.take_append_drop]
  have e2 : (R.cells (l.take i)).length = i * R.K := by rw [R.cells_len, List.length_take]; congr 1; omega
  have e3 : (R.cells l ++ rest).take (i * R.K) = R.cells (l.take i) := by
    rw [e1, List.append_assoc, List.take_append_of_le_length (by rw [e2]; exact Nat.le_refl _), List.take_of_length_le (by rw [e2]; exact Nat.le_refl _)]
  have e4 : (R.cells l ++ rest).drop (l.length * R.K) = rest := by
    rw [← R.cells_len, List.drop_left]
  rw [e3, e4, R.cells_app]
/-- the end of a row is cleared and cut off -/
theorem Zoo.clear {W0 W : World} {L : List Th} {v : Value} {l : List α} (h : Zoo W0 W L) (i : Nat) (hi : L[i]? = some (R.row v l)) (zr : α) (hz : R.enc zr = R.z.cells.toList) (k n : Nat) (hn : 0 < n) (hk : k + n = l.length) :
    ∃ g cap, v = .slice (some ⟨g, 0, none⟩) l.length cap ∧ l.length ≤ cap ∧ (∀ c ty, (Builtin.clear_ #[R.ts] ty #[.slice (some ⟨g, k * R.K, none⟩) n c]).run Try.prog W = .ok (.tuple #[]) (W.setCells g (k * R.K) (R.cells (List.replicate n zr)))) ∧ Zoo W0 (W.setCells g (k * R.K) (R.cells (List.replicate n zr))) (L.set i (R.row (.slice (some ⟨g, 0, none⟩) k cap) (l.take k))) := by
  obtain ⟨F, ⟨ho, hF⟩, hlow, hact⟩ := h.act i _ hi
  obtain ⟨g, cap, rest, rfl, hc, hg, hrow, hback⟩ := ho.row (by omega)
  have h2 := hback _ _ k (by omega) (by rw [List.length_append, List.length_take, List.length_replicate]; omega) (hrow.cleared zr k n hk)
  rw [List.take_append_of_le_length (by rw [List.length_take]; omega), List.take_take, Nat.min_self] at h2
  have hkb : KeptB W g (W.setCells g (k * R.K) (R.cells (List.replicate n zr))) := KeptB.sets _ _ (KeptB.refl W g)
  exact ⟨g, cap, rfl, hc, fun c ty => hrow.clear zr hz k n hn hk c ty, hact _ F _ ⟨h2, hF⟩ (hkb.grows hF rfl)⟩
end
/-- what a round of DeleteFunc has kept -/
structure Kept {α : Type} (p : α → Bool) (l cur : List α) (i j : Nat) : Prop where
  len : cur.length = l.length
  lt : i < j
  le : j ≤ l.length
  done : cur.take i = (l.take j).filter (fun x => !p x)
  todo : cur.drop j = l.drop j
theorem Kept.start {α : Type} {p : α → Bool} {l : List α} {i : Nat} (hi : i < l.length) (hp : p l[i] = true) (hno : ∀ k (hk : k < i), p (l[k]'(by omega)) = false) : Kept p l l i (i + 1) where
  len := rfl
  lt := Nat.lt_succ_self _
  le := hi
  done := by
    rw [List.take_succ_eq_append_getElem hi, List.filter_append, List.filter_eq_self.2 (fun x hx => by
      obtain ⟨k, hk, rfl⟩ := List.mem_iff_getElem.1 hx
      rw [List.length_take] at hk
      rw [List.getElem_take, hno k (by omega)]; rfl)]
    simp [hp]
  todo := rfl
theorem Kept.get {α : Type} {p : α → Bool} {l cur : List α} {i j : Nat} (h : Kept p l cur i j) (hj : j < l.length) : cur[j]'(by have := h.len; omega) = l[j] := by
  have := h.todo
  have e1 := List.drop_eq_getElem_cons (l := cur) (i := j) (by have := h.len; omega)
  have e2 := List.drop_eq_getElem_cons (l := l) (i := j) hj
  rw [e1, e2] at this
  exact (List.cons.inj this).1
theorem Kept.skip {α : Type} {p : α → Bool} {l cur : List α} {i j : Nat} (h : Kept p l cur i j) (hj : j < l.length) (hp : p l[j] = true) : Kept p l cur i (j + 1) where
  len := h.len
  lt := Nat.lt_succ_of_lt h.lt
  le := hj
  done := by rw [h.done, List.take_succ_eq_append_getElem hj, List.filter_append]; simp [hp]
  todo := by rw [← List.drop_drop, ← List.drop_drop, h.todo]
theorem Kept.keep {α : Type} {p : α → Bool} {l cur : List α} {i j : Nat} (h : Kept p l cur i j) (hj : j < l.length) (hp : p l[j] = false) : Kept p l (cur.set i l[j]) (i + 1) (j + 1) where
  len := by rw [List.length_set]; exact h.len
  lt := Nat.succ_lt_succ h.lt
  le := hj
  done := by
    have hi : i < cur.length := by have := h.len; have := h.lt; omega
    rw [List.take_set, List.take_succ_eq_append_getElem hi, List.set_append_right _ _ (by rw [List.length_take]; omega), List.length_take, show i - min i cur.length = 0 from by omega, h.done, List.take_succ_eq_append_getElem hj, List.filter_append]
    simp [hp]
  todo := by
    rw [List.drop_set_of_lt (by have := h.lt; omega), ← List.drop_drop, ← List.drop_drop, h.todo]
theorem Kept.all {α : Type} {p : α → Bool} {l cur : List α} {i : Nat} (h : Kept p l cur i l.length) : cur.take i = l.filter (fun x => !p x) := by rw [h.done, List.take_length]
end Go.Proofs.Ytcnebfmlelcliaa

