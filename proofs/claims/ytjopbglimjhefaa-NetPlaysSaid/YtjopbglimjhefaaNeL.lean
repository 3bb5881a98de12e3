/- Next: walked. -/
import Derived.Test.YtjopbglimjhefaaNeK
namespace Go.Proofs.Ytjopbglimjhefaa
open Go.RowKit Go.Maps Go.WideMaps

/-- what comes next, and what is left -/
inductive NextR (now : Nat) (C : Int → Int → Bool) : List Pk → Option Pk → List Pk → Prop
  | none (l : List Pk) : (∀ q ∈ l, (now : Int) < q.due) → NextR now C l none l
  | take (p : Pk) (l l' : List Pk) : (p :: l').Perm l → (∀ q ∈ l, leP p q) → p.due ≤ now → C (lo p.src p.dst) (hi p.src p.dst) = false → NextR now C l (some p) l'
  | drop (p : Pk) (l l1 : List Pk) (r : Option Pk) (l' : List Pk) : (p :: l1).Perm l → (∀ q ∈ l, leP p q) → p.due ≤ now → C (lo p.src p.dst) (hi p.src p.dst) = true → NextR now C l1 r l' → NextR now C l r l'
/-- every packet goes over a link -/
def Good (l : List Pk) : Prop := ∀ q ∈ l, Lk (lo q.src q.dst) (hi q.src q.dst)
theorem OwnP.block {W W' : World} {v : Value} {l : List Pk} (h : OwnP W v l) (hk : ∀ g, v.ownBlock = some g → W'.heap[g]? = W.heap[g]?) : OwnP W' v l := by
  refine ⟨h.1, ?_⟩
  rcases h.2 with h1 | ⟨g, cap, cur, h1, h2, h3, h4⟩
  · exact .inl h1
  · exact .inr ⟨g, cap, cur, h1, h2, (hk g (by rw [h1]; rfl)).trans h3, h4⟩
theorem NetAt.same {W W' : World} {b m : Nat} {v : Value} {l : List Pk} {now last N : Nat} {C : Int → Int → Bool} (h : NetAt W b m v l now last N C) (hk : ∀ k, k = b ∨ k = m ∨ v.ownBlock = some k → W'.heap[k]? = W.heap[k]?) : NetAt W' b m v l now last N C := by
  have kb := hk b (.inl rfl)
  obtain ⟨D, hm, hc⟩ := h.map
  exact ⟨⟨(World.cell?_of_block kb).trans h.fl.1, (World.frozen?_of_block kb).trans h.fl.2.1, h.fl.2.2.1.block (fun g hg => hk g (.inr (.inr hg))), h.fl.2.2.2⟩, (World.cell?_of_block kb).trans h.now, (World.cell?_of_block kb).trans h.last, (World.cell?_of_block kb).trans h.cut, (World.frozen?_of_block kb).trans h.f1, (World.frozen?_of_block kb).trans h.f2, ⟨D, ownsMap_block hm (hk m (.inr (.inl rfl))), hc⟩, h.mb, h.mv⟩
/-- .. in whatever world the net is kept -/
theorem NetAt.kept {W W' : World} {b m : Nat} {v : Value} {l : List Pk} {now last N : Nat} {C : Int → Int → Bool} (h : NetAt W b m v l now last N C) {B : Nat} (hk : Kept1 W B W') (hb : B ≠ b) (hm : B ≠ m) (hv : v.ownBlock ≠ some B) : NetAt W' b m v l now last N C := by
  obtain ⟨D, hmm, -⟩ := h.map
  refine h.same (fun k hk1 => hk.2.2.2.2 k ?_ ?_)
  · rcases hk1 with rfl | rfl | h1
    · exact h.fl.lt
    · exact hmm.lt
    · exact h.fl.2.2.1.lt h1
  · rcases hk1 with rfl | rfl | h1
    · exact Ne.symm hb
    · exact Ne.symm hm
    · intro e; subst e; exact hv h1
theorem NSame.of_kept1 {W0 W W' : World} {B b m : Nat} {v : Value} (h0 : NSame W0 b m v W) (h : Kept1 W B W') (hB : W0.heap.size ≤ B) : NSame W0 b m v W' :=
  ⟨h.1.trans h0.os, h.2.1.trans h0.tape, h.2.2.1.trans h0.output, Nat.le_trans h0.size h.2.2.2.1, fun k hk h1 h2 h3 => (h.2.2.2.2 k (Nat.lt_of_lt_of_le hk h0.size) (by omega)).trans (h0.block k hk h1 h2 h3)⟩
def pkArr (p : Pk) : Array Value := #[.int .i64 p.id, .int .i64 p.src, .int .i64 p.dst, .string p.data, .int .i64 p.due]
/-- a packet in a block of its own -/
def PkAt (W : World) (B : Nat) (p : Pk) : Prop := W.heap[B]? = some (.cells (pkArr p) 30 (0, 0))
theorem PkAt.row {W : World} {B : Nat} {p : Pk} (h : PkAt W B p) : PRow W B [p] [] := h
theorem PkAt.below {W W' : World} {B : Nat} {p : Pk} (h : PkAt W B p) (hb : Below W.heap.size W W') : PkAt W' B p := (hb.block B (Array.getElem?_eq_some_iff.1 (show W.heap[B]? = _ from h)).1).trans h
theorem pk_load {W : World} {B : Nat} {p : Pk} (h : PkAt W B p) : (loadVar 30 ⟨B, 0, none⟩).run Try.prog W = .ok (.agg (pkArr p)) W :=
  run_loadVar_row (P := Try.prog) W B 30 30 (pkArr p) (0, 0) _ h Try.underlying30 rfl (by show _ = some 5; kernel_rfl)
theorem next_results : Try.f13.results = #[.cell 2 30, .tmp 3] := by kernel_rfl
theorem next_res {fn : Func} (hfn : fn.results = #[.cell 2 30, .tmp 3]) {W : World} {B : Nat} {p : Pk} {ok : Bool} {tmps : Array Value} (hB : PkAt W B p) (h4 : tmps.getD 2 undef = .pointer (some ⟨B, 0, none⟩)) (h5 : tmps.getD 3 undef = .bool ok) :
    (results fn tmps).run Try.prog W = .ok (.tuple #[.agg (pkArr p), .bool ok]) W := by
  rw [results_cell_tmp hfn, h4, h5]
  simp only [asAddr, Sem.run_pure, Result.andThen, pk_load hB]
theorem PkAt.cells {W : World} {B : Nat} {p : Pk} (h : PkAt W B p) : W.cell? ⟨B, 0, none⟩ = some (.int .i64 p.id) ∧ W.cell? ⟨B, 1, none⟩ = some (.int .i64 p.src) ∧ W.cell? ⟨B, 2, none⟩ = some (.int .i64 p.dst) ∧ W.cell? ⟨B, 3, none⟩ = some (.string p.data) ∧ W.cell? ⟨B, 4, none⟩ = some (.int .i64 p.due) ∧ ∀ j, W.frozen? ⟨B, j, none⟩ = false :=
  ⟨(cell_at h 0).trans rfl, (cell_at h 1).trans rfl, (cell_at h 2).trans rfl, (cell_at h 3).trans rfl, (cell_at h 4).trans rfl, fun j => by simp [World.frozen?, show W.heap[B]? = _ from h]⟩
/-- a packet is stored over another -/
def putB (W : World) (B : Nat) (p : Pk) : World := ((((W.setCell ⟨B, 0, none⟩ (.int .i64 p.id)).setCell ⟨B, 1, none⟩ (.int .i64 p.src)).setCell ⟨B, 2, none⟩ (.int .i64 p.dst)).setCell ⟨B, 3, none⟩ (.string p.data)).setCell ⟨B, 4, none⟩ (.int .i64 p.due)
theorem PkAt.putB {W : World} {B : Nat} {p : Pk} (h : PkAt W B p) (q : Pk) : PkAt (putB W B q) B q := by
  have h0 : W.heap[B]? = some (.cells [.int .i64 p.id, .int .i64 p.src, .int .i64 p.dst, .string p.data, .int .i64 p.due].toArray 30 (0, 0)) := h
  exact cells_set (cells_set (cells_set (cells_set (cells_set h0 _ _) _ _) _ _) _ _) _ _
theorem kept_putB (W : World) (B : Nat) (q : Pk) : Kept1 W B (putB W B q) := (((((Kept1.refl W B).set _ _).set _ _).set _ _).set _ _).set _ _
theorem plainBool_inv {P : Program} {t : TypeId} (he : P.underlying t = some .bool) {u : Value} {x : Bool} {ps : List MemPlace} (hu : plainElem (H := Unit) P t u = some (.lit (.bool x), ps)) : u = .bool x := by
  unfold plainElem at hu
  rw [he] at hu
  cases u <;> simp at hu
  rw [hu.1]
theorem bool_read {u : Value} {x : Bool} {ps : List MemPlace} (hu : RB u = some (.lit (.bool x), ps)) : u = .bool x := plainBool_inv Try.underlying4 hu
theorem NetAt.look {W : World} {b m : Nat} {v : Value} {l : List Pk} {now last N : Nat} {C : Int → Int → Bool} (h : NetAt W b m v l now last N C) {x y : Int} (hl : Lk x y) :
    (Instr.lookup 53 (.map (some m)) (.agg #[.int .i64 x, .int .i64 y]) false).run Try.prog W = .ok (.bool (C x y)) W := by
  obtain ⟨D, hm, hc⟩ := h.map
  obtain ⟨u, ps, hrun, hu⟩ := hm.lookup net_key Try.underlying53 (zeroBool _) (zd := .lit (.bool false)) (zp := []) (plainElem_bool Try.underlying4 false) (keyL_of hl)
  have e := bool_read (hu.trans (congrArg (fun z => some (z, ps)) (hc x y hl)))
  subst e
  exact hrun
def lenAt (w : World) (b : Nat) : Nat := match w.cell? ⟨b, 0, none⟩ with
  | some (.slice _ n _) => n
  | _ => 0
theorem lenAt_eq {W : World} {b : Nat} {v : Value} {l : List Pk} (h : Fl W b v l) : lenAt W b = l.length := by
  obtain ⟨ao, cap, rfl⟩ := h.2.2.1.len
  unfold lenAt
  rw [h.1]
def NextRet (W : World) (b m : Nat) (v : Value) (l : List Pk) (now last N : Nat) (C : Int → Int → Bool) (e : Ending) (w' : World) : Prop :=
  ∃ (r : Option Pk) (v' : Value) (l' : List Pk), e = .returned (.tuple #[.agg (pkArr (r.getD Pk.zero)), .bool r.isSome]) ∧ Hid (NetAt w' b m v' l' now last N C ∧ Heap l' l'.length) ∧ Hid (NextR now C l r l') ∧ Hid (NSame W b m v w' ∧ Later W v v')
theorem next_fin {W w2 : World} {b m B : Nat} {v v' : Value} {l l' : List Pk} {now last N : Nat} {C : Int → Int → Bool} (r : Option Pk) (hn : NetAt w2 b m v' l' now last N C) (hh : Heap l' l'.length) (hS : NSame W b m v w2) (hL : Later W v v') (hB : B = W.heap.size) (hb : b ≠ B) (hm : m ≠ B) (hv : v'.ownBlock ≠ some B) (hr : NextR now C l r l') :
    NextRet W b m v l now last N C (.returned (.tuple #[.agg (pkArr (r.getD Pk.zero)), .bool r.isSome])) (putB w2 B (r.getD Pk.zero)) :=
  ⟨r, v', l', rfl, Lib.hid ⟨hn.kept (kept_putB w2 B _) (Ne.symm hb) (Ne.symm hm) hv, hh⟩, Lib.hid hr, Lib.hid ⟨hS.of_kept1 (kept_putB w2 B _) (Nat.le_of_eq hB.symm), hL⟩⟩
theorem mem_pat {l : List Pk} {q : Pk} (h : q ∈ l) : ∃ k, k < l.length ∧ pat l k = q := by
  obtain ⟨k, hk, e⟩ := List.mem_iff_getElem.1 h
  exact ⟨k, hk, by rw [pat_lt hk, e]⟩
theorem Heap.least {l : List Pk} (h : Heap l l.length) : ∀ q ∈ l, leP (pat l 0) q := fun q hq => by
  obtain ⟨k, hk, rfl⟩ := mem_pat hq
  exact h.top k hk
theorem Heap.later {l : List Pk} (h : Heap l l.length) {now : Nat} (hd : (now : Int) < (pat l 0).due) : ∀ q ∈ l, (now : Int) < q.due := fun q hq => by
  have := h.least q hq
  unfold leP ltP at this
  omega
set_option maxRecDepth 100000 in
set_option maxHeartbeats 4000000 in
theorem next_any (b m : Nat) (v : Value) (l : List Pk) (now last N : Nat) (C : Int → Int → Bool) (W : World) (h : NetAt W b m v l now last N C) (hh : Heap l l.length) (hl : l.length ≤ 512) (hgood : Good l) :
    Calls Try.prog 13 #[.pointer (some ⟨b, 0, none⟩)] W (NextRet W b m v l now last N C) := by
  have hb0 := h.fl.lt
  have hbW : b ≠ W.heap.size := by omega
  have hmW : m ≠ W.heap.size := by
    obtain ⟨D, hm, -⟩ := h.map
    have := hm.lt; omega
  have hvW : v.ownBlock ≠ some W.heap.size := fun e => by have := h.fl.2.2.1.lt e; omega
  replace h := Lib.hid h
  go_enter Try.func13, Try.ntmps13
  go_wp2_with fail
  have h0 := h.out.below ((Below.refl _ W).alloc (Nat.le_refl _) (.cells (pkArr Pk.zero) 30))
  have hS0 := NSame.of_below ((Below.refl _ W).alloc (Nat.le_refl _) (.cells (pkArr Pk.zero) 30)) b m v
  have hP0 : PkAt (W.alloc (.cells (pkArr Pk.zero) 30)) W.heap.size Pk.zero := heap_alloc_new W _
  unfold pkArr Pk.zero at h0 hS0 hP0
  replace h0 := Lib.hid h0
  replace hS0 := Lib.hid hS0
  replace hP0 := Lib.hid hP0
  have hWB : ∃ B, B = W.heap.size := ⟨_, rfl⟩
  obtain ⟨B, hB⟩ := hWB
  rw [← hB] at hbW hmW hvW hP0 ⊢
  replace hB := Lib.hid hB
  go_loopw [3] (fun v3 wr => v3 = .bool false ∧ ∃ (v' : Value) (l' : List Pk), Hid (NetAt wr b m v' l' now last N C ∧ Heap l' l'.length ∧ l'.length ≤ 512 ∧ Good l') ∧ Hid (v'.ownBlock ≠ some B ∧ PkAt wr B Pk.zero) ∧ Hid (∀ r l2, NextR now C l' r l2 → NextR now C l r l2) ∧ Hid (NSame W b m v wr ∧ Later W v v')) (fun _ wr => lenAt wr b)
  case atStart => exact ⟨rfl, v, l, Lib.hid ⟨h0.out, hh, hl, hgood⟩, Lib.hid ⟨hvW, hP0.out⟩, Lib.hid (fun _ _ h => h), Lib.hid ⟨hS0.out, Later.refl _ _⟩⟩
  case round =>
    clear h h0 hS0 hP0 hh hl hgood hvW
    obtain ⟨rfl, v', l', hn, hp0, hR, hS⟩ := hrel
    have hlen := Lib.hid (lenAt_eq hn.out.1.fl)
    obtain ⟨ao, cap, hv⟩ := hn.out.1.fl.2.2.1.len
    have c0 := hn.out.1.fl.1
    have c1 := hn.out.1.now
    subst hv
    by_cases h1 : l'.length = 0
    · have hlz : (l'.length : Int) = 0 := by omega
      obtain ⟨z0, z1, z2, z3, z4, zf⟩ := hp0.out.2.cells
      have hl0 : l' = [] := List.eq_nil_of_length_eq_zero h1
      go_wp2_with fail
      go_quiet (fail)
      have z0 : (wr.drewN nq).cell? ⟨B, 0, none⟩ = some (.int .i64 Pk.zero.id) := z0
      have z1 : (wr.drewN nq).cell? ⟨B, 1, none⟩ = some (.int .i64 Pk.zero.src) := z1
      have z2 : (wr.drewN nq).cell? ⟨B, 2, none⟩ = some (.int .i64 Pk.zero.dst) := z2
      have z3 : (wr.drewN nq).cell? ⟨B, 3, none⟩ = some (.string Pk.zero.data) := z3
      have z4 : (wr.drewN nq).cell? ⟨B, 4, none⟩ = some (.int .i64 Pk.zero.due) := z4
      have zf : ∀ j, (wr.drewN nq).frozen? ⟨B, j, none⟩ = false := zf
      have hp2 : PkAt (wr.drewN nq) B Pk.zero := hp0.out.2
      have hn2 := hn.out.1.below (below_drewN (Below.refl _ wr) nq)
      have hS2 := hS.out.1.trans hS.out.2 (NSame.of_below (below_drewN (Below.refl _ wr) nq) b m (.slice ao l'.length cap))
      replace hp2 := Lib.hid hp2
      replace hn2 := Lib.hid hn2
      replace hS2 := Lib.hid hS2
      generalize wr.drewN nq = w2 at z0 z1 z2 z3 z4 zf hp2 hn2 hS2 ⊢
      go_wp2_with fail
      refine bodyPost_ret (next_res next_results (hp2.out.putB Pk.zero) rfl rfl) rfl ?_
      subst hl0
      exact next_fin none hn2.out hn.out.2.1 hS2.out hS.out.2 hB.out hbW hmW hp0.out.1 (hR.out _ _ (.none [] (fun q hq => by cases hq)))
    · obtain ⟨n, hn1⟩ : ∃ n, l'.length = n + 1 := ⟨l'.length - 1, by omega⟩
      obtain ⟨g, capg, rest, hv, hbg, -, hrow, -, -⟩ := hn.out.1.fl.row (by omega)
      injection hv with hv1 hv2 hv3
      subst hv1 hv3
      obtain ⟨-, -, -, -, t4⟩ := hrow.cells 0 (by omega)
      simp only [Nat.zero_mul, Nat.zero_add] at t4
      have hpos : (0 : Int) < (l'.length : Int) := by omega
      obtain ⟨z0, z1, z2, z3, z4, zf⟩ := hp0.out.2.cells
      have hdue : ∀ x : Int, (pat l' 0).due = x → (pat l' 0).due = x := fun _ h => h
      by_cases hd : (pat l' 0).due ≤ (now : Int)
      · have hheap := hn.out.2.1
        have hpop := Lib.hid (fun W2 (hF : Fl W2 b (.slice (some ⟨g, 0, none⟩) l'.length cap) l') => heapPop_any b n (.slice (some ⟨g, 0, none⟩) l'.length cap) l' hn1 (by have := hn.out.2.2.1; omega) W2 hF (by rw [hn1] at hheap; exact hheap))
        have hleast := Lib.hid hheap.least
        have hdue2 := Lib.hid hd
        have hlkg := Lib.hid (hn.out.2.2.2 (pat l' 0) (by rw [pat_lt (by omega)]; exact List.getElem_mem _))
        have hass := assert_pk
        clear hdue hrow hheap
        generalize hpt : pat l' 0 = p at t4 hd hpop hleast hdue2 hlkg
        replace hpt := Lib.hid hpt
        simp only [pkVal] at hpop
        go_wp2_with fail
        go_quiet (fail)
        have hp2 : PkAt (wr.drewN nq) B Pk.zero := hp0.out.2
        have hn2 := hn.out.1.below (below_drewN (Below.refl _ wr) nq)
        have hS2 := hS.out.1.trans hS.out.2 (NSame.of_below (below_drewN (Below.refl _ wr) nq) b m (.slice (some ⟨g, 0, none⟩) l'.length cap))
        replace hp2 := Lib.hid hp2
        replace hn2 := Lib.hid hn2
        replace hS2 := Lib.hid hS2
        clear c0 c1 t4 z0 z1 z2 z3 z4 zf
        generalize wr.drewN nq = w2 at hp2 hn2 hS2 ⊢
        have hcall := Lib.hid (hpop.out w2 hn2.out.fl)
        clear hpop
        go_wp2_with fail
        refine hcall.out.mono ?_
        rintro e w3 ⟨rfl, v3, l3, h3, h4, h5⟩
        have hl3 : l3.length = n := by
          have := h4.out.1.length_eq
          rw [List.length_cons] at this; omega
        have hn3 := Lib.hid (hn2.out.flown h3.out h5.out.1 h5.out.2)
        have hS3 := Lib.hid (hS2.out.trans hS.out.2 (NSame.of_f h5.out.1))
        have hL3 := Lib.hid (hS.out.2.trans h5.out.2 hS2.out.size)
        have hBw := (Array.getElem?_eq_some_iff.1 (show w2.heap[B]? = _ from hp2.out)).1
        have hv3 : v3.ownBlock ≠ some B := fun e => by
          rcases h5.out.2 B e with h6 | h6
          · exact hp0.out.1 h6
          · omega
        have hp3 : PkAt w3 B Pk.zero := (h5.out.1.block B hBw (Ne.symm hbW) hp0.out.1).trans hp2.out
        replace hp3 := Lib.hid hp3
        replace hv3 := Lib.hid hv3
        clear hcall hn2 hS2 hp2 hBw
        have hlk := Lib.hid (fun W => link_any p.src p.dst W)
        go_wp2_with fail
        refine (hlk.out _).mono ?_
        rintro e w5 ⟨x, y, ok, rfl, hxy, hb5⟩
        have hba : Below w3.heap.size w3 w5 := ((Below.refl _ w3).alloc (Nat.le_refl _) _).trans (hb5.out.mono (by simp))
        have hp4 : PkAt (w3.alloc (.cells (pkArr p) 30)) w3.heap.size p := heap_alloc_new w3 _
        have hp5 := Lib.hid (hp4.below hb5.out)
        have hn5 := hn3.out.below hba
        have hz5 := Lib.hid (hp3.out.below hba)
        have hS5 := hS3.out.trans hL3.out (NSame.of_below hba b m v3)
        have hbl5 := hn5.fl.lt
        have hbs5 : b ≠ w5.heap.size := by omega
        have c3 := hn5.cut
        have hlen5 := Lib.hid (lenAt_eq hn5.fl)
        have hx : Lk x y := by rw [hxy.out.1, hxy.out.2.1]; exact hlkg.out
        have hC : C x y = C (lo p.src p.dst) (hi p.src p.dst) := by rw [hxy.out.1, hxy.out.2.1]
        have hb6 : Below w5.heap.size w5 (w5.alloc (.cells #[.int .i64 x, .int .i64 y] 57)) := (Below.refl _ w5).alloc (Nat.le_refl _) _
        have hn6 := hn5.below hb6
        have hlook : ∀ k, (Instr.lookup 53 (.map (some m)) (.agg #[.int .i64 x, .int .i64 y]) false).run Try.prog ((w5.alloc (.cells #[.int .i64 x, .int .i64 y] 57)).drewN k) = .ok (.bool (C x y)) ((w5.alloc (.cells #[.int .i64 x, .int .i64 y] 57)).drewN k) := fun k => (hn6.below (below_drewN (Below.refl _ _) k)).look hx
        replace hn6 := Lib.hid hn6
        have hz6 := Lib.hid (hz5.out.below hb6)
        have hp6 := Lib.hid (hp5.out.below hb6)
        have hS6 := Lib.hid (hS5.trans hL3.out (NSame.of_below hb6 b m v3))
        replace hn5 := Lib.hid hn5
        replace hC := Lib.hid hC
        clear hlk hba hp4 hn3 hS3 hp3 hb5 hS5 hz5 hp5 hb6 hx hxy
        generalize C x y = cxy at hlook hC
        cases cxy
        · have htake := Lib.hid (NextR.take (now := now) (C := C) p l' l3 h4.out.1 hleast.out hdue2.out hC.out.symm)
          go_wp2_with fail
          go_quiet (fail)
          have hq : Below (w5.alloc (.cells #[.int .i64 x, .int .i64 y] 57)).heap.size (w5.alloc (.cells #[.int .i64 x, .int .i64 y] 57)) ((w5.alloc (.cells #[.int .i64 x, .int .i64 y] 57)).drewN nq) := below_drewN (Below.refl _ _) nq
          have hn7 := Lib.hid (hn6.out.below hq)
          have hz7 := hz6.out.below hq
          have hp7 := hp6.out.below hq
          have hS7 := Lib.hid (hS6.out.trans hL3.out (NSame.of_below hq b m v3))
          obtain ⟨z0, z1, z2, z3, z4, zf⟩ := hz7.cells
          obtain ⟨t0, t1, t2, t3, t4, -⟩ := hp7.cells
          replace hz7 := Lib.hid hz7
          clear hn6 hz6 hp6 hS6 hq hp7 hlook c3 hbl5 hbs5 hlen5 hn5
          generalize (w5.alloc (.cells #[.int .i64 x, .int .i64 y] 57)).drewN nq = w7 at hn7 hz7 hS7 z0 z1 z2 z3 z4 zf t0 t1 t2 t3 t4 ⊢
          go_wp2_with fail
          refine bodyPost_ret (next_res next_results (hz7.out.putB p) rfl rfl) rfl ?_
          exact next_fin (some p) hn7.out h4.out.2 hS7.out hL3.out hB.out hbW hmW hv3.out (hR.out _ _ htake.out)
        · have hdrop := Lib.hid (fun r l2 (h : NextR now C l3 r l2) => hR.out r l2 (NextR.drop (now := now) (C := C) p l' l3 r l2 h4.out.1 hleast.out hdue2.out hC.out.symm h))
          have hg3 := Lib.hid (show Good l3 from fun q hq => hn.out.2.2.2 q (h4.out.1.mem_iff.1 (List.mem_cons_of_mem _ hq)))
          go_wp2_with fail
          go_quiet (fail)
          have hq : Below (w5.alloc (.cells #[.int .i64 x, .int .i64 y] 57)).heap.size (w5.alloc (.cells #[.int .i64 x, .int .i64 y] 57)) ((w5.alloc (.cells #[.int .i64 x, .int .i64 y] 57)).drewN nq) := below_drewN (Below.refl _ _) nq
          have hn7 := Lib.hid (hn6.out.below hq)
          have hz7 := Lib.hid (hz6.out.below hq)
          have hS7 := Lib.hid (hS6.out.trans hL3.out (NSame.of_below hq b m v3))
          clear hn6 hz6 hp6 hS6 hq hlook c3 hbl5 hbs5 hlen5 hn5
          generalize (w5.alloc (.cells #[.int .i64 x, .int .i64 y] 57)).drewN nq = w7 at hn7 hz7 hS7 ⊢
          go_wp2_with fail
          go_roundw
          case rel => exact ⟨rfl, v3, l3, Lib.hid ⟨hn7.out, h4.out.2, by have := hn.out.2.2.1; omega, hg3.out⟩, Lib.hid ⟨hv3.out, hz7.out⟩, hdrop, Lib.hid ⟨hS7.out, hL3.out⟩⟩
          case measure =>
            have e7 := lenAt_eq hn7.out.fl
            have e0 := hlen.out
            omega
      · have hlate := Lib.hid (NextR.none (now := now) (C := C) l' (hn.out.2.1.later (by omega)))
        generalize (pat l' 0).due = due at t4 hd
        clear hdue hrow
        go_wp2_with fail
        go_quiet (fail)
        have z0 : (wr.drewN nq).cell? ⟨B, 0, none⟩ = some (.int .i64 Pk.zero.id) := z0
        have z1 : (wr.drewN nq).cell? ⟨B, 1, none⟩ = some (.int .i64 Pk.zero.src) := z1
        have z2 : (wr.drewN nq).cell? ⟨B, 2, none⟩ = some (.int .i64 Pk.zero.dst) := z2
        have z3 : (wr.drewN nq).cell? ⟨B, 3, none⟩ = some (.string Pk.zero.data) := z3
        have z4 : (wr.drewN nq).cell? ⟨B, 4, none⟩ = some (.int .i64 Pk.zero.due) := z4
        have zf : ∀ j, (wr.drewN nq).frozen? ⟨B, j, none⟩ = false := zf
        have hp2 : PkAt (wr.drewN nq) B Pk.zero := hp0.out.2
        have hn2 := hn.out.1.below (below_drewN (Below.refl _ wr) nq)
        have hS2 := hS.out.1.trans hS.out.2 (NSame.of_below (below_drewN (Below.refl _ wr) nq) b m (.slice (some ⟨g, 0, none⟩) l'.length cap))
        replace hp2 := Lib.hid hp2
        replace hn2 := Lib.hid hn2
        replace hS2 := Lib.hid hS2
        generalize wr.drewN nq = w2 at z0 z1 z2 z3 z4 zf hp2 hn2 hS2 ⊢
        go_wp2_with fail
        refine bodyPost_ret (next_res next_results (hp2.out.putB Pk.zero) rfl rfl) rfl ?_
        exact next_fin none hn2.out hn.out.2.1 hS2.out hS.out.2 hB.out hbW hmW hp0.out.1 (hR.out _ _ hlate.out)
end Go.Proofs.Ytjopbglimjhefaa
