/- The work of a request, as things in memory; sweep, look, end: walked. -/
import Derived.Test.YtdobbfjmlnlieaaGreatB04
namespace Go.Proofs.YtdobbfjmlnlieaaGreat
set_option linter.unusedSimpArgs false
open Go.RowKit
attribute [local go_sem ↓] Go.wp_at_zero Go.wp_at_succ

structure Rq where
  op : Int
  session : Nat
  number : Nat
  node : Int
  life : Nat
  try_ : Nat
  box : ByteArray
  to_ : ByteArray
  validity : Nat
  uids : List (Nat × Nat)
  flags : List (List UInt8)
  how : Int
  has : Bool
  since : Nat
  hash : ByteArray
  size : Nat
  sweeps : Nat
structure Oc where
  code : Int
  session : Nat
  validity : Nat
  uids : List Nat
  mods : List Nat
def oc0 : Oc := ⟨0, 0, 0, [], []⟩
def u64T : RT Nat where
  enc := fun n => [.int .u64 n]
  K := 1
  t := 23
  ts := 33
  z := .int .u64 0
  bytes := 8
  len := fun _ => rfl
  one := fun x u hu => by simp at hu; subst hu; rfl
  pos := by decide
  und := Tryz.underlying33
  info := by kernel_rfl
  zs := rfl
  bb := by decide
/-- where a request's slices lie -/
structure RqV where
  au : Option Addr
  cu : Nat
  af : Option Addr
  cf : Nat
def rqCells (q : Rq) (y : RqV) : List Value := [.int .i64 q.op, .int .u64 q.session, .int .u64 q.number, .int .i64 q.node, .int .u64 q.life, .int .u64 q.try_, .string q.box, .string q.to_, .int .u64 q.validity, .slice y.au q.uids.length y.cu, .slice y.af q.flags.length y.cf, .int .i64 q.how, .bool q.has, .int .u64 q.since, .string q.hash, .int .u64 q.size, .int .u64 q.sweeps]
def RqIn (W : World) (q : Rq) (y : RqV) : Prop := RangesIn W W.heap.size (.slice y.au q.uids.length y.cu) q.uids ∧ FlIn W (.slice y.af q.flags.length y.cf) q.flags
theorem RqIn.below {W W' : World} {q : Rq} {y : RqV} (h : RqIn W q y) (hb : Below W.heap.size W W') : RqIn W' q y := ⟨h.1.on hb, Rd.below h.2 hb⟩
/-- where the parts of a work lie -/
structure WkV where
  ab : Option Addr
  cb : Nat
  ah : Option Addr
  ch : Nat
  as_ : Option Addr
  cs : Nat
  aU : Option Addr
  cU : Nat
  aM : Option Addr
  cM : Nat
  bs : List BxV
  S : List (Value × List (List UInt8))
def workCells (k : WkV) (m : Ml) (q : Rq) (y : RqV) (o : Oc) : List Value :=
  [.slice k.ab k.bs.length k.cb, .int .u64 m.nv, .slice k.ah m.homes.length k.ch, .slice k.as_ m.seats.length k.cs, .int .u64 m.ns, .int .u64 m.sweeps,
   .int .i64 q.op, .int .u64 q.session, .int .u64 q.number, .int .i64 q.node, .int .u64 q.life, .int .u64 q.try_, .string q.box, .string q.to_, .int .u64 q.validity, .slice y.au q.uids.length y.cu, .slice y.af q.flags.length y.cf, .int .i64 q.how, .bool q.has, .int .u64 q.since, .string q.hash, .int .u64 q.size, .int .u64 q.sweeps,
   .int .i64 o.code, .int .u64 o.session, .int .u64 o.validity, .slice k.aU o.uids.length k.cU, .slice k.aM o.mods.length k.cM]
def workL (wb : Nat) (k : WkV) (m : Ml) (q : Rq) (y : RqV) (o : Oc) : List Th :=
  boxT wb (workCells k m q y o).toArray 80 :: u64T.row (.slice k.aU o.uids.length k.cU) o.uids :: u64T.row (.slice k.aM o.mods.length k.cM) o.mods :: stateL (.slice k.ab k.bs.length k.cb) (.slice k.ah m.homes.length k.ch) (.slice k.as_ m.seats.length k.cs) k.bs m.homes m.seats k.S
def WkOk (k : WkV) (m : Ml) : Prop := k.bs.map BxV.b = m.boxes ∧ HasB k.S k.bs
/-- what a deed hands back: its errno, the state, the outcome -/
def WkRet (W0 : World) (wb : Nat) (q : Rq) (y : RqV) (res : Int × Ml × Oc) (e : Ending) (w' : World) : Prop := ∃ k, e = .returned (.int .i64 res.1) ∧ Hid (WkOk k res.2.1) ∧ Hid (Zoo W0 w' (workL wb k res.2.1 q y res.2.2))
theorem WkRet.of {W0 : World} {wb : Nat} {q : Rq} {y : RqV} {res res' : Int × Ml × Oc} {e : Ending} {w' : World} (h : res = res') (h2 : WkRet W0 wb q y res' e w') : WkRet W0 wb q y res e w' := h ▸ h2
section
variable {W0 W : World} {L : List Th}
theorem front_perm {α : Type} : ∀ (L : List α) (i : Nat) (hi : i < L.length), L.Perm (L[i] :: L.eraseIdx i)
  | _ :: _, 0, _ => List.Perm.refl _
  | x :: L, i + 1, hi => ((front_perm L i (by simpa using hi)).cons x).trans (List.Perm.swap _ _ _)
theorem Zoo.front {a : Th} (h : Zoo W0 W L) (i : Nat) (hi : L[i]? = some a) : Zoo W0 W (a :: L.eraseIdx i) := by
  obtain ⟨hl, rfl⟩ := List.getElem?_eq_some_iff.1 hi
  exact h.perm (front_perm L i hl)
theorem Zoo.back {b : Th} (i : Nat) (hi : i < L.length) (h : Zoo W0 W (b :: L.eraseIdx i)) : Zoo W0 W (L.set i b) := by
  refine h.perm ?_
  have := front_perm (L.set i b) i (by rw [List.length_set]; exact hi)
  rw [List.getElem_set_self, List.eraseIdx_set_eq] at this
  exact this.symm
end
def lookM (m : Ml) (_ : Rq) (o : Oc) : Int × Ml × Oc := (0, m, o)
def sweepM (m : Ml) (_ : Rq) (o : Oc) : Int × Ml × Oc := if m.sweeps = 9223372036854775807 then (13, m, o) else (0, { m with sweeps := m.sweeps + 1 }, o)
def endM (m : Ml) (q : Rq) (o : Oc) : Int × Ml × Oc := (0, { m with seats := m.seats.filter (fun x => !(x.session == q.session)) }, o)
theorem look_any {W0 W : World} {wb : Nat} {k : WkV} {m : Ml} {q : Rq} {y : RqV} {o : Oc} (hz : Zoo W0 W (workL wb k m q y o)) (hk : WkOk k m) :
    Calls Tryz.prog 36 #[.pointer (some ⟨wb, 0, none⟩)] W (WkRet W0 wb q y (lookM m q o)) := by
  replace hz := Lib.hid hz
  replace hk := Lib.hid hk
  go_enter Tryz.func36, Tryz.ntmps36
  go_wp2_with fail
  go_ret
  exact ⟨k, rfl, hk, hz⟩
set_option maxHeartbeats 4000000 in
theorem sweep_any {W0 W : World} {wb : Nat} {k : WkV} {m : Ml} {q : Rq} {y : RqV} {o : Oc} (hz : Zoo W0 W (workL wb k m q y o)) (hk : WkOk k m) (hsw : m.sweeps ≤ 9223372036854775807) :
    Calls Tryz.prog 43 #[.pointer (some ⟨wb, 0, none⟩)] W (WkRet W0 wb q y (sweepM m q o)) := by
  obtain ⟨hbx, -⟩ := hz.box 0 rfl
  have k5 : W.cell? ⟨wb, 5, none⟩ = some (.int .u64 m.sweeps) := box_cell hbx 5
  have f5 := box_free hbx 5
  unfold sweepM
  by_cases he : m.sweeps = 9223372036854775807
  · rw [if_pos he]
    replace hz := Lib.hid hz
    replace hk := Lib.hid hk
    rw [he] at k5
    replace he := Lib.hid he
    clear hbx hsw
    go_enter Tryz.func43, Tryz.ntmps43
    go_wp2_with fail
    go_ret
    exact ⟨k, rfl, hk, hz⟩
  · rw [if_neg he]
    have hz2 := Lib.hid (hz.setBox 0 rfl 5 (.int .u64 ((m.sweeps + 1 : Nat) : Int)))
    replace hz2 : Hid (Zoo W0 (W.setCell ⟨wb, 5, none⟩ (.int .u64 ((m.sweeps : Int) + 1))) (workL wb k { m with sweeps := m.sweeps + 1 } q y o)) := hz2
    replace hk := Lib.hid hk
    have hne : ((m.sweeps : Int) == 9223372036854775807) = false := by simp; omega
    have hb : m.sweeps + 1 < 18446744073709551616 := by omega
    clear hbx hz
    go_enter Tryz.func43, Tryz.ntmps43
    go_wp2_with fail
    go_ret
    exact ⟨k, rfl, hk, hz2⟩
theorem end1_any {W : World} (x : St) (bx wb : Nat) (session : Nat) (h1 : W.cell? ⟨bx, 0, none⟩ = some (.pointer (some ⟨wb, 0, none⟩))) (h2 : W.cell? ⟨wb, 7, none⟩ = some (.int .u64 session)) :
    Calls Tryz.prog 81 #[.agg (stT.enc x).toArray, .pointer (some ⟨bx, 0, none⟩)] W fun e w' => e = .returned (.bool (x.session == session)) ∧ Hid (Below W.heap.size W w') := by
  have l1 := World.block_lt_of_cell? _ _ h1
  have l2 := World.block_lt_of_cell? _ _ h2
  dsimp only at l1 l2
  have n1 : bx ≠ W.heap.size := by omega
  have n2 : wb ≠ W.heap.size := by omega
  have hb := Lib.hid ((Below.refl _ W).alloc (Nat.le_refl _) (.cells (stCells x).toArray 69))
  unfold stCells at hb
  show Calls Tryz.prog 81 #[.agg #[.int .u64 x.session, .int .u64 x.last, .int .i64 x.node, .int .u64 x.life, .int .u64 x.try_], .pointer (some ⟨bx, 0, none⟩)] W _
  go_enter Tryz.func81, Tryz.ntmps81
  go_wp2_with fail
  go_quiet (fail)
  go_wp2_with fail
  go_ret
  exact ⟨ret_bool (beq_cast _ _), Lib.hid (below_drewN hb.out nq)⟩
set_option maxRecDepth 100000 in
set_option maxHeartbeats 4000000 in
theorem end_any {W0 W : World} {wb : Nat} {k : WkV} {m : Ml} {q : Rq} {y : RqV} {o : Oc} (hz : Zoo W0 W (workL wb k m q y o)) (hk : WkOk k m) (hl : m.seats.length ≤ 100000) :
    Calls Tryz.prog 35 #[.pointer (some ⟨wb, 0, none⟩)] W (WkRet W0 wb q y (endM m q o)) := by
  have hz1 := (hz.newBox #[.pointer (some ⟨wb, 0, none⟩)] 77).drew
  generalize hB : W.heap.size = B at hz1
  have hfr := hz1.front 6 rfl
  have hdel := Lib.hid (endDel_any (.slice k.as_ m.seats.length k.cs) m.seats (fun x => x.session == q.session) (.pointer (some ⟨B, 0, none⟩)) hl hfr (fun x _ W2 l2 h2 => end1_any x B wb q.session (box_cell (h2.box 1 rfl).1 0) (box_cell (h2.box 2 rfl).1 7)))
  obtain ⟨hbx, -⟩ := hz1.box 1 rfl
  obtain ⟨hb0, -⟩ := hz1.box 0 rfl
  generalize hW1 : (W.alloc (.cells #[.pointer (some ⟨wb, 0, none⟩)] 77)) = W1 at *
  have c0 : W1.drew.cell? ⟨B, 0, none⟩ = some (.pointer (some ⟨wb, 0, none⟩)) := box_cell hb0 0
  have c3 : W1.drew.cell? ⟨wb, 3, none⟩ = some (.slice k.as_ m.seats.length k.cs) := box_cell hbx 3
  replace hk := Lib.hid hk
  clear hbx hb0 hz hfr hz1 hl
  go_enter Tryz.func35, Tryz.ntmps35
  go_wp2_with fail
  refine wp_region_hd (fun w' => w'.cell? ⟨B, 0, none⟩ = some (.pointer (some ⟨wb, 0, none⟩)) ∧ w'.cell? ⟨wb, 3, none⟩ = some (.slice k.as_ m.seats.length k.cs)) 8 4 (by kernel_rfl) rfl ⟨by kernel_rfl, by kernel_rfl, by kernel_rfl, by decide⟩ ⟨c0, c3⟩ (fun hok hS0 => ?_)
  refine Hd.take (i := 0) (v := ?tv18) hok rfl (by kernel_rfl) (fun _ _ _ h => h) (Or.inl ⟨by rfl, ?ty18⟩) (by assumption) ?tr18
  case ty18 => (intro w hSw; (try dsimp only at hSw); go_simp; (try with_reducible rfl))
  try simp only [List.getElem_toArray, List.getElem_cons_succ, List.getElem_cons_zero, Act.put, List.setIfInBounds_toArray, List.set_cons_zero, List.set_cons_succ]
  refine Hd.take (i := 1) (v := ?tv19) hok rfl (by kernel_rfl) (fun _ _ _ h => h) (Or.inl ⟨by rfl, ?ty19⟩) (by assumption) ?tr19
  case ty19 => (intro w hSw; (try dsimp only at hSw); go_simp; (try with_reducible rfl))
  try simp only [List.getElem_toArray, List.getElem_cons_succ, List.getElem_cons_zero, Act.put, List.setIfInBounds_toArray, List.set_cons_zero, List.set_cons_succ]
  refine Hd.take (i := 2) (v := ?tv20) hok rfl (by kernel_rfl) (fun _ _ _ h => h) (Or.inl ⟨by rfl, ?ty20⟩) (by assumption) ?tr20
  case ty20 => (intro w hSw; (try dsimp only at hSw); go_simp; (try with_reducible rfl))
  try simp only [List.getElem_toArray, List.getElem_cons_succ, List.getElem_cons_zero, Act.put, List.setIfInBounds_toArray, List.set_cons_zero, List.set_cons_succ]
  refine Hd.take (i := 3) (v := ?tv21) hok rfl (by kernel_rfl) (fun _ _ _ h => h) (Or.inl ⟨by rfl, ?ty21⟩) (by assumption) ?tr21
  case ty21 => (intro w hSw; (try dsimp only at hSw); go_simp; (try with_reducible rfl))
  try simp only [List.getElem_toArray, List.getElem_cons_succ, List.getElem_cons_zero, Act.put, List.setIfInBounds_toArray, List.set_cons_zero, List.set_cons_succ]
  refine Hd.take (i := 4) (v := ?tv22) hok rfl (by kernel_rfl) (fun _ _ _ h => h) (Or.inl ⟨by rfl, ?ty22⟩) (by assumption) ?tr22
  case ty22 => (intro w hSw; (try dsimp only at hSw); go_simp; (try with_reducible rfl))
  try simp only [List.getElem_toArray, List.getElem_cons_succ, List.getElem_cons_zero, Act.put, List.setIfInBounds_toArray, List.set_cons_zero, List.set_cons_succ]
  refine Hd.take (i := 5) (v := ?tv23) hok rfl (by kernel_rfl) (fun _ _ _ h => h) (Or.inl ⟨by rfl, ?ty23⟩) (by assumption) ?tr23
  case ty23 => (intro w hSw; (try dsimp only at hSw); go_simp; (try with_reducible rfl))
  try simp only [List.getElem_toArray, List.getElem_cons_succ, List.getElem_cons_zero, Act.put, List.setIfInBounds_toArray, List.set_cons_zero, List.set_cons_succ]
  refine Hd.take (i := 6) (v := ?tv24) hok rfl (by kernel_rfl) (fun _ _ _ h => h) (Or.inl ⟨by rfl, ?ty24⟩) (by assumption) ?tr24
  case ty24 => (intro w hSw; (try dsimp only at hSw); go_simp; (try with_reducible rfl))
  try simp only [List.getElem_toArray, List.getElem_cons_succ, List.getElem_cons_zero, Act.put, List.setIfInBounds_toArray, List.set_cons_zero, List.set_cons_succ]
  refine Hd.one (i := 7) rfl (by kernel_rfl) (fun K hK => ?_)
  go_simp
  refine hdel.out.mono ?_
  rintro e w3 ⟨v3, rfl, hz3⟩
  dsimp only
  obtain ⟨a3, n3, hv3⟩ := (hz3.out.own 0 rfl).len
  subst hv3
  obtain ⟨hbx, -⟩ := hz3.out.box 2 rfl
  obtain ⟨hb0, -⟩ := hz3.out.box 1 rfl
  have c0 : w3.cell? ⟨B, 0, none⟩ = some (.pointer (some ⟨wb, 0, none⟩)) := box_cell hb0 0
  have c3 : w3.cell? ⟨wb, 3, none⟩ = some (.slice k.as_ m.seats.length k.cs) := box_cell hbx 3
  have f3 := box_free hbx 3
  refine hK _ _ ⟨c0, c3⟩ ?_
  clear hK K
  try simp only [List.getElem_toArray, List.getElem_cons_succ, List.getElem_cons_zero, Act.put, List.setIfInBounds_toArray, List.set_cons_zero, List.set_cons_succ]
  refine Hd.done (by kernel_rfl) ?_
  simp only [List.drop_succ_cons, List.drop_zero]
  have hz4 := Zoo.back (L := boxT B #[.pointer (some ⟨wb, 0, none⟩)] 77 :: workL wb k m q y o) 6 (by show 6 < _ + 8; omega) hz3.out
  have hz5 := hz4.tail.setBox 0 rfl 3 (.slice a3 (endM m q o).2.1.seats.length n3)
  replace hz5 : Hid (Zoo W0 (w3.setCell ⟨wb, 3, none⟩ (.slice a3 (m.seats.filter (fun x => !(x.session == q.session))).length n3)) (workL wb { k with as_ := a3, cs := n3 } (endM m q o).2.1 q y o)) := Lib.hid hz5
  generalize (m.seats.filter (fun x => !(x.session == q.session))).length = n at *
  clear hz3 hz4 hbx hb0 hok hS0 hdel hW1 hB
  go_wp2_with fail
  go_ret
  exact ⟨{ k with as_ := a3, cs := n3 }, rfl, Lib.hid hk.out, hz5⟩
end Go.Proofs.YtdobbfjmlnlieaaGreat
