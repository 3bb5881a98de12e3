/- begun of layer 22: walked. later of layer 22: walked. Rows of the call's own of which a first part is taken, with no room behind it: what they hold, how they are cut, written and appended to. A view's rows and replies as rows of structs. Where a letter stands: walked. Sync, loop by loop: what is so far told, and what the rows are; plain. -/
import Derived.Test.YtcnebfmlelcliaaB08
import Derived.Test.YtcnebfmlelcliaaB04
import Derived.Test.YtcnebfmlelcliaaB01
import Derived.ArgAppend
import Derived.Test.YtcnebfmlelcliaaB02
namespace Go.Proofs.Ytcnebfmlelcliaa
set_option linter.unusedSimpArgs false
open Go.RowKit
attribute [local go_sem ↓] Go.wp_at_zero Go.wp_at_succ

theorem Stay.sets {ok : Nat → Prop} {w : World} {P : World → Prop} (h : Stay ok w P) (B : Nat) (C : List Value) (hB : ∀ k, ok k → k < w.heap.size → k ≠ B) : Stay ok (w.setCells B 0 C) P := by
  have k := KeptB.sets C 0 (KeptB.refl w B)
  exact h.on (Nat.le_of_eq k.size.symm) (fun j hj hl => k.block j (hB j hj hl))
def okL (L : List Nat) : Nat → Prop := fun k => ∀ b ∈ L, k ≠ b
section
variable {w : World} {P : World → Prop} {L : List Nat}
theorem Stay.okL {n : Nat} (h : Stay (fun k => n ≤ k) w P) (hL : ∀ b ∈ L, b < n) : Stay (okL L) w P := h.weak (fun k _ hk b hb => by have h1 := hL b hb; have h2 : n ≤ k := hk; omega)
theorem Stay.allocL (h : Stay (Go.Proofs.Ytcnebfmlelcliaa.okL L) w P) (o : Obj) : Stay (Go.Proofs.Ytcnebfmlelcliaa.okL (w.heap.size :: L)) (w.alloc o) P :=
  (h.weak (fun k hk h1 b hb => by
    rcases List.mem_cons.1 hb with rfl | hb
    · exact Nat.ne_of_lt hk
    · exact h1 b hb)).below ((Below.refl _ _).alloc (Nat.le_refl _) o)
theorem Stay.setL (h : Stay (Go.Proofs.Ytcnebfmlelcliaa.okL L) w P) {B : Nat} (hB : B ∈ L) (C : List Value) : Stay (Go.Proofs.Ytcnebfmlelcliaa.okL L) (w.setCells B 0 C) P := h.sets B C (fun _ hk _ => hk B hB)
theorem Stay.lessL {L' : List Nat} (h : Stay (Go.Proofs.Ytcnebfmlelcliaa.okL L) w P) (hL : ∀ b ∈ L', b ∈ L) : Stay (Go.Proofs.Ytcnebfmlelcliaa.okL L') w P := h.weak (fun _ _ hk b hb => hk b (hL b hb))
end
theorem ltL_below {L : List Nat} {w w' : World} (h : ∀ b ∈ L, b < w.heap.size) (hb : w.heap.size ≤ w'.heap.size) : ∀ b ∈ L, b < w'.heap.size := fun b hm => Nat.lt_of_lt_of_le (h b hm) hb
theorem ltL_alloc {L : List Nat} {w : World} (h : ∀ b ∈ L, b < w.heap.size) (o : Obj) : ∀ b ∈ w.heap.size :: L, b < (w.alloc o).heap.size := fun b hm => by
  have hs : (w.alloc o).heap.size = w.heap.size + 1 := by simp
  rw [hs]
  rcases List.mem_cons.1 hm with rfl | hm
  · omega
  · have := h b hm; omega
/-- a state to begin with, and its INBOX, that read so in all worlds that keep all blocks but L -/
def BegunV (L : List Nat) (W : World) (e : Ending) (w' : World) : Prop := ∃ (sv : Value) (z : BxV) (m0 : Ml), e = .returned (.tuple #[sv, bxAgg z]) ∧ Hid (RightP m0) ∧ Hid (findM m0 inboxS = some z.b) ∧ Hid (Stay (okL L) w' fun x => MlIn x sv m0) ∧ Hid (Stay (okL L) w' fun x => LtsIn x z.v z.rows) ∧ Hid (Below W.heap.size W w')
def zMl : List Value := [.slice none 0 0, .int .u64 0, .slice none 0 0, .slice none 0 0, .int .u64 0, .int .u64 0]
def zBx : List Value := [.string ⟨#[]⟩, .int .u64 0, .int .u64 0, .int .u64 0, .slice none 0 0]
set_option maxRecDepth 100000 in
set_option maxHeartbeats 16000000 in
theorem begunV_any {L : List Nat} {W : World} {m : Ml} (v : Value) (hL : ∀ b ∈ L, b < W.heap.size) (hst : Stay (okL L) W fun x => MlIn x v m) (hsz : AskSz m) :
    Calls Try.prog 21 #[v] W (BegunV L W) := by
  obtain ⟨ab, cb, nb, ah, ch, as_, cs, rfl⟩ := hst.now.out_
  have hz1 := (Zoo.nil W).newBox [.slice ab nb cb, .int .u64 m.nv, .slice ah m.homes.length ch, .slice as_ m.seats.length cs, .int .u64 m.ns, .int .u64 m.sweeps].toArray 47
  have st1 := hst.allocL (.cells [.slice ab nb cb, .int .u64 m.nv, .slice ah m.homes.length ch, .slice as_ m.seats.length cs, .int .u64 m.ns, .int .u64 m.sweeps].toArray 47)
  have lt1 := ltL_alloc hL (.cells [.slice ab nb cb, .int .u64 m.nv, .slice ah m.homes.length ch, .slice as_ m.seats.length cs, .int .u64 m.ns, .int .u64 m.sweeps].toArray 47)
  generalize hMB : W.heap.size = MB at hz1 st1 lt1
  generalize hWa : (W.alloc (.cells [.slice ab nb cb, .int .u64 m.nv, .slice ah m.homes.length ch, .slice as_ m.seats.length cs, .int .u64 m.ns, .int .u64 m.sweeps].toArray 47)) = Wa at hz1 st1 lt1
  have hz2 := hz1.newBox zMl.toArray 47
  have st2 := st1.allocL (.cells zMl.toArray 47)
  have lt2 := ltL_alloc lt1 (.cells zMl.toArray 47)
  generalize hRB : Wa.heap.size = RB at hz2 st2 lt2
  generalize hWb : (Wa.alloc (.cells zMl.toArray 47)) = Wb at hz2 st2 lt2
  have hz3 := hz2.newBox zBx.toArray 28
  have st3 := st2.allocL (.cells zBx.toArray 28)
  have lt3 := ltL_alloc lt2 (.cells zBx.toArray 28)
  generalize hSB : Wb.heap.size = SB at hz3 st3 lt3
  generalize hWc : (Wb.alloc (.cells zBx.toArray 28)) = Wc at hz3 st3 lt3
  unfold zMl at hWb
  unfold zBx at hWc
  replace hz3 := Lib.hid hz3
  replace st3 := Lib.hid st3
  replace lt3 := Lib.hid lt3
  have hr := Lib.hid (refRightM_any _ st3.out.now hsz)
  clear hz1 hz2 st1 st2 lt1 lt2 hst hL
  go_enter Try.func21, Try.ntmps21
  go_upto_region 1 with fail
  clear hWa hWb hWc hRB hSB
  obtain ⟨hbM, -⟩ := hz3.out.box 2 rfl
  have x0 : Wc.cell? ⟨MB, 0, none⟩ = some (.slice ab nb cb) := box_cell hbM 0
  have x1 : Wc.cell? ⟨MB, 1, none⟩ = some (.int .u64 m.nv) := box_cell hbM 1
  have x2 : Wc.cell? ⟨MB, 2, none⟩ = some (.slice ah m.homes.length ch) := box_cell hbM 2
  have x3 : Wc.cell? ⟨MB, 3, none⟩ = some (.slice as_ m.seats.length cs) := box_cell hbM 3
  have x4 : Wc.cell? ⟨MB, 4, none⟩ = some (.int .u64 m.ns) := box_cell hbM 4
  have x5 : Wc.cell? ⟨MB, 5, none⟩ = some (.int .u64 m.sweeps) := box_cell hbM 5
  clear hbM
  go_wp2_with (go_at_call 37; refine hr.out.mono ?_; rintro e w1 ⟨B, rfl, hB, hb1⟩; clear x0 x1 x2 x3 x4 x5; refine Hid.out ?_)
  refine Lib.hid ?_
  have hz := Lib.hid (hz3.out.below hb1.out)
  have st := Lib.hid (st3.out.below hb1.out)
  have lt := Lib.hid (ltL_below lt3.out hb1.out.size)
  clear hr hb1 hz3 st3 lt3
  go_upto_if 8 with fail
  go_cut [] (fun wx => ∃ (m0 : Ml) (ab : Option Addr) (cb nb : Nat) (ah : Option Addr) (ch : Nat) (as_ : Option Addr) (cs : Nat), Hid (RightP m0) ∧ Hid (Zoo W wx [boxT SB zBx.toArray 28, boxT RB zMl.toArray 47, boxT MB [.slice ab nb cb, .int .u64 m0.nv, .slice ah m0.homes.length ch, .slice as_ m0.seats.length cs, .int .u64 m0.ns, .int .u64 m0.sweeps].toArray 47]) ∧ Hid (Stay (okL (SB :: RB :: MB :: L)) wx fun x => MlIn x (.agg #[.slice ab nb cb, .int .u64 m0.nv, .slice ah m0.homes.length ch, .slice as_ m0.seats.length cs, .int .u64 m0.ns, .int .u64 m0.sweeps]) m0) ∧ Hid (∀ b ∈ SB :: RB :: MB :: L, b < wx.heap.size))
  case first =>
    cases B with
    | true =>
      replace hB : Hid (RightP m) := Lib.hid (hB.out.1 rfl)
      go_wp2_with fail
      go_meet
      case rel => exact ⟨m, ab, cb, nb, ah, ch, as_, cs, hB, hz, st, lt⟩
    | false =>
      have hnw := Lib.hid (newS_any w1)
      go_wp2_with (go_at_call 38; refine hnw.out.mono ?_; rintro e w2 ⟨v2, rfl, hv2, hb2⟩; refine Hid.out ?_)
      obtain ⟨ab2, cb2, nb2, ah2, ch2, as2, cs2, rfl⟩ := hv2.out.now.out_
      have hzn := Lib.hid (hz.out.below hb2.out)
      obtain ⟨hbM, -⟩ := hzn.out.box 2 rfl
      have z0 := box_cell hbM 0
      have z1 := box_cell hbM 1
      have z2 := box_cell hbM 2
      have z3 := box_cell hbM 3
      have z4 := box_cell hbM 4
      have z5 := box_cell hbM 5
      simp at z0 z1 z2 z3 z4 z5
      have f0 := box_free hbM 0
      have f1 := box_free hbM 1
      have f2 := box_free hbM 2
      have f3 := box_free hbM 3
      have f4 := box_free hbM 4
      have f5 := box_free hbM 5
      have hzF := Lib.hid (hzn.out.fillBox (C := [_, _, _, _, _, _]) 2 rfl [.slice ab2 nb2 cb2, .int .u64 newM.nv, .slice ah2 newM.homes.length ch2, .slice as2 newM.seats.length cs2, .int .u64 newM.ns, .int .u64 newM.sweeps] rfl)
      have stN := Lib.hid ((hv2.out.okL lt.out).setL (B := MB) (by simp) [.slice ab2 nb2 cb2, .int .u64 newM.nv, .slice ah2 newM.homes.length ch2, .slice as2 newM.seats.length cs2, .int .u64 newM.ns, .int .u64 newM.sweeps])
      have ltN := Lib.hid (ltL_below (ltL_below lt.out hb2.out.size) (Nat.le_of_eq (by simp [World.setCells] : w2.heap.size = (w2.setCells MB 0 [.slice ab2 nb2 cb2, .int .u64 newM.nv, .slice ah2 newM.homes.length ch2, .slice as2 newM.seats.length cs2, .int .u64 newM.ns, .int .u64 newM.sweeps]).heap.size)))
      simp only [World.setCells, Nat.zero_add] at hzF stN ltN
      clear hbM hv2 hb2 hzn hB hz st lt hnw
      refine Lib.hid ?_
      go_wp2_with fail
      go_meet
      case rel => exact ⟨newM, ab2, cb2, nb2, ah2, ch2, as2, cs2, Lib.hid right_new, hzF, stN, ltN⟩
  case rest =>
  obtain ⟨m0, ab0, cb0, nb0, ah0, ch0, as0, cs0, hr0, hz0, st0, lt0⟩ := hcut
  generalize wc = w3 at *
  clear hz st lt hB
  obtain ⟨b0, hb0⟩ := right_inbox hr0.out
  have hfd := Lib.hid (findS_any _ m0 w3 st0.out.now hr0.out.sized inboxS)
  obtain ⟨hbM, -⟩ := hz0.out.box 2 rfl
  have x0 : w3.cell? ⟨MB, 0, none⟩ = some (.slice ab0 nb0 cb0) := box_cell hbM 0
  have x1 : w3.cell? ⟨MB, 1, none⟩ = some (.int .u64 m0.nv) := box_cell hbM 1
  have x2 : w3.cell? ⟨MB, 2, none⟩ = some (.slice ah0 m0.homes.length ch0) := box_cell hbM 2
  have x3 : w3.cell? ⟨MB, 3, none⟩ = some (.slice as0 m0.seats.length cs0) := box_cell hbM 3
  have x4 : w3.cell? ⟨MB, 4, none⟩ = some (.int .u64 m0.ns) := box_cell hbM 4
  have x5 : w3.cell? ⟨MB, 5, none⟩ = some (.int .u64 m0.sweeps) := box_cell hbM 5
  replace hb0 := Lib.hid hb0
  clear hbM
  unfold inboxS inboxL at hfd
  go_wp2_with (go_at_call 39; refine hfd.out.mono ?_; rintro e w4 ⟨z, rfl, hzb, hzl, hb4⟩; clear x0 x1 x2 x3 x4 x5; refine Hid.out ?_)
  obtain ⟨nm, vl, nx, hi, rows, az, cz⟩ := z
  unfold bxAgg bxCells BxV.v
  dsimp only
  have hzb2 : Hid (findM m0 inboxS = some (BxV.b ⟨nm, vl, nx, hi, rows, az, cz⟩)) := Lib.hid (by rw [hzb.out]; show findM m0 inboxS = some ((findM m0 inboxS).getD bx0.b); rw [hb0.out]; rfl)
  have st4 := st0.out.below hb4.out
  have sl4 := (hzl.out.okL lt0.out)
  have hz4 := (hz0.out.below hb4.out)
  have lt4 := ltL_below lt0.out hb4.out.size
  have hz5 := Lib.hid (hz4.newBox [.string nm, .int .u64 vl, .int .u64 nx, .int .u64 hi, .slice az rows.length cz].toArray 28)
  have st5 := Lib.hid (st4.allocL (.cells [.string nm, .int .u64 vl, .int .u64 nx, .int .u64 hi, .slice az rows.length cz].toArray 28))
  have sl5 := Lib.hid (sl4.allocL (.cells [.string nm, .int .u64 vl, .int .u64 nx, .int .u64 hi, .slice az rows.length cz].toArray 28))
  clear hzb hzl hb4 hz0 st0 hfd hb0 st4 sl4 hz4 lt0 lt4
  refine Lib.hid ?_
  generalize hQB : w4.heap.size = QB at hz5 st5 sl5
  go_upto_region 4 with fail
  generalize (w4.alloc (.cells [.string nm, .int .u64 vl, .int .u64 nx, .int .u64 hi, .slice az rows.length cz].toArray 28)) = w5 at hz5 st5 sl5 ⊢
  have hzd := hz5.out.drew
  have hdr := ((Below.refl w5.heap.size w5).drew)
  have sd5 := st5.out.below hdr
  have sld5 := sl5.out.below hdr
  obtain ⟨hbM, -⟩ := hzd.box 3 rfl
  obtain ⟨hbQ, -⟩ := hzd.box 0 rfl
  refine wp_region_hd (fun w' => (w'.cell? ⟨MB, 0, none⟩ = some (.slice ab0 nb0 cb0) ∧ w'.cell? ⟨MB, 1, none⟩ = some (.int .u64 m0.nv) ∧ w'.cell? ⟨MB, 2, none⟩ = some (.slice ah0 m0.homes.length ch0) ∧ w'.cell? ⟨MB, 3, none⟩ = some (.slice as0 m0.seats.length cs0) ∧ w'.cell? ⟨MB, 4, none⟩ = some (.int .u64 m0.ns) ∧ w'.cell? ⟨MB, 5, none⟩ = some (.int .u64 m0.sweeps)) ∧ (w'.cell? ⟨QB, 0, none⟩ = some (.string nm) ∧ w'.cell? ⟨QB, 1, none⟩ = some (.int .u64 vl) ∧ w'.cell? ⟨QB, 2, none⟩ = some (.int .u64 nx) ∧ w'.cell? ⟨QB, 3, none⟩ = some (.int .u64 hi) ∧ w'.cell? ⟨QB, 4, none⟩ = some (.slice az rows.length cz))) 3 1 (by kernel_rfl) rfl ⟨by kernel_rfl, by kernel_rfl, by kernel_rfl, by decide⟩ ⟨⟨box_cell hbM 0, box_cell hbM 1, box_cell hbM 2, box_cell hbM 3, box_cell hbM 4, box_cell hbM 5⟩, ⟨box_cell hbQ 0, box_cell hbQ 1, box_cell hbQ 2, box_cell hbQ 3, box_cell hbQ 4⟩⟩ (fun hok hS0 => ?_)
  generalize w5.drew = wd at *
  refine Hd.take (i := 0) (v := ?tv108) hok rfl (by kernel_rfl) (fun _ _ _ h => h) (Or.inl ⟨by rfl, ?ty108⟩) (by assumption) ?tr108
  case ty108 => (intro w hSw; (try dsimp only at hSw); go_simp; (try with_reducible rfl))
  try simp only [List.getElem_toArray, List.getElem_cons_succ, List.getElem_cons_zero, Act.put, List.setIfInBounds_toArray, List.set_cons_zero, List.set_cons_succ]
  refine Hd.take (i := 1) (v := ?tv109) hok rfl (by kernel_rfl) (fun _ _ _ h => h) (Or.inl ⟨by rfl, ?ty109⟩) (by assumption) ?tr109
  case ty109 => (intro w hSw; (try dsimp only at hSw); go_simp; (try with_reducible rfl))
  try simp only [List.getElem_toArray, List.getElem_cons_succ, List.getElem_cons_zero, Act.put, List.setIfInBounds_toArray, List.set_cons_zero, List.set_cons_succ]
  obtain ⟨hbR, -⟩ := hzd.box 2 rfl
  have z0 := box_cell hbR 0
  have z1 := box_cell hbR 1
  have z2 := box_cell hbR 2
  have z3 := box_cell hbR 3
  have z4 := box_cell hbR 4
  have z5 := box_cell hbR 5
  simp [zMl] at z0 z1 z2 z3 z4 z5
  have f0 := box_free hbR 0
  have f1 := box_free hbR 1
  have f2 := box_free hbR 2
  have f3 := box_free hbR 3
  have f4 := box_free hbR 4
  have f5 := box_free hbR 5
  have hz6 := hzd.fillBox 2 rfl [.slice ab0 nb0 cb0, .int .u64 m0.nv, .slice ah0 m0.homes.length ch0, .slice as0 m0.seats.length cs0, .int .u64 m0.ns, .int .u64 m0.sweeps] rfl
  have st6 := sd5.setL (B := RB) (by simp) [.slice ab0 nb0 cb0, .int .u64 m0.nv, .slice ah0 m0.homes.length ch0, .slice as0 m0.seats.length cs0, .int .u64 m0.ns, .int .u64 m0.sweeps]
  have sl6 := sld5.setL (B := RB) (by simp) [.slice ab0 nb0 cb0, .int .u64 m0.nv, .slice ah0 m0.homes.length ch0, .slice as0 m0.seats.length cs0, .int .u64 m0.ns, .int .u64 m0.sweeps]
  simp only [World.setCells, Nat.zero_add] at hz6 st6 sl6
  refine Hd.one (i := 2) rfl (by kernel_rfl) (fun K hK => ?_)
  go_simp
  generalize hw6 : (((((wd.setCell ⟨RB, 0, none⟩ _).setCell ⟨RB, 1, none⟩ _).setCell ⟨RB, 2, none⟩ _).setCell ⟨RB, 3, none⟩ _).setCell ⟨RB, 4, none⟩ _).setCell ⟨RB, 5, none⟩ _ = w6 at hz6 st6 sl6 ⊢
  obtain ⟨hbM, -⟩ := hz6.box 3 rfl
  obtain ⟨hbQ, -⟩ := hz6.box 0 rfl
  refine hK _ _ ⟨⟨box_cell hbM 0, box_cell hbM 1, box_cell hbM 2, box_cell hbM 3, box_cell hbM 4, box_cell hbM 5⟩, ⟨box_cell hbQ 0, box_cell hbQ 1, box_cell hbQ 2, box_cell hbQ 3, box_cell hbQ 4⟩⟩ ?_
  clear hK K
  try simp only [List.getElem_toArray, List.getElem_cons_succ, List.getElem_cons_zero, Act.put, List.setIfInBounds_toArray, List.set_cons_zero, List.set_cons_succ]
  refine Hd.done (by kernel_rfl) ?_
  simp only [List.drop_succ_cons, List.drop_zero]
  obtain ⟨hbS, -⟩ := hz6.box 1 rfl
  have y0 := box_cell hbS 0
  have y1 := box_cell hbS 1
  have y2 := box_cell hbS 2
  have y3 := box_cell hbS 3
  have y4 := box_cell hbS 4
  simp [zBx] at y0 y1 y2 y3 y4
  have g0 := box_free hbS 0
  have g1 := box_free hbS 1
  have g2 := box_free hbS 2
  have g3 := box_free hbS 3
  have g4 := box_free hbS 4
  have hz7 := Lib.hid (hz6.fillBox 1 rfl [.string nm, .int .u64 vl, .int .u64 nx, .int .u64 hi, .slice az rows.length cz] rfl)
  have st7 := Lib.hid ((st6.setL (B := SB) (by simp) [.string nm, .int .u64 vl, .int .u64 nx, .int .u64 hi, .slice az rows.length cz]).lessL (L' := L) (fun b hb => by simp [hb]))
  have sl7 := Lib.hid ((sl6.setL (B := SB) (by simp) [.string nm, .int .u64 vl, .int .u64 nx, .int .u64 hi, .slice az rows.length cz]).lessL (L' := L) (fun b hb => by simp [hb]))
  simp only [World.setCells, Nat.zero_add] at hz7 st7 sl7
  obtain ⟨hbR7, -⟩ := hz7.out.box 2 rfl
  obtain ⟨hbS7, -⟩ := hz7.out.box 1 rfl
  replace hbR7 := Lib.hid hbR7
  replace hbS7 := Lib.hid hbS7
  clear hw6 hok hS0 hbM hbQ hbS hbR z0 z1 z2 z3 z4 z5 f0 f1 f2 f3 f4 f5 hz6 st6 sl6 hzd hdr sd5 sld5 hz5 st5 sl5
  go_wp2_with fail
  refine bodyPost_ret (results_cells2 rfl _ _ RB SB [.slice ab0 nb0 cb0, .int .u64 m0.nv, .slice ah0 m0.homes.length ch0, .slice as0 m0.seats.length cs0, .int .u64 m0.ns, .int .u64 m0.sweeps] [.string nm, .int .u64 vl, .int .u64 nx, .int .u64 hi, .slice az rows.length cz] rfl rfl hbR7.out hbS7.out Try.isAgg47 Try.sizeOf47 Try.isAgg28 Try.sizeOf28) rfl ?_
  exact ⟨_, ⟨nm, vl, nx, hi, rows, az, cz⟩, m0, rfl, hr0, hzb2, st7, sl7, Lib.hid hz7.out.bel⟩
end Go.Proofs.Ytcnebfmlelcliaa
namespace Go.Proofs.Ytcnebfmlelcliaa
set_option linter.unusedSimpArgs false
open Go.RowKit
attribute [local go_sem ↓] Go.wp_at_zero Go.wp_at_succ

/-- the cells of a state -/
def sC (ab : Option Addr) (nb cb : Nat) (m : Ml) (ah : Option Addr) (ch : Nat) (as_ : Option Addr) (cs : Nat) : List Value := [.slice ab nb cb, .int .u64 m.nv, .slice ah m.homes.length ch, .slice as_ m.seats.length cs, .int .u64 m.ns, .int .u64 m.sweeps]
end Go.Proofs.Ytcnebfmlelcliaa
namespace Go.Proofs.Ytcnebfmlelcliaa
open Go.RowKit
section
variable {α : Type} {R : RT α}
/-- v is a row of the call's own that holds l, or the first part of one, with no room behind it -/
def RT.OwnC (R : RT α) (W : World) (v : Value) (l : List α) : Prop := R.Own W v l ∨ ∃ g rest, v = .slice (some ⟨g, 0, none⟩) l.length l.length ∧ R.PR W g l rest
theorem RT.OwnC.len {W : World} {v : Value} {l : List α} (h : R.OwnC W v l) : ∃ a c, v = .slice a l.length c := by
  rcases h with h | ⟨g, rest, rfl, -⟩
  · exact h.len
  · exact ⟨_, _, rfl⟩
theorem RT.OwnC.lt {W : World} {v : Value} {l : List α} (h : R.OwnC W v l) {g : Nat} (hg : v.ownBlock = some g) : g < W.heap.size := by
  rcases h with h | ⟨g', rest, rfl, hr⟩
  · exact h.lt hg
  · injection hg with hg
    subst hg
    exact (Array.getElem?_eq_some_iff.1 hr).1
theorem RT.OwnC.block {W W' : World} {v : Value} {l : List α} (h : R.OwnC W v l) (hk : ∀ g, v.ownBlock = some g → W'.heap[g]? = W.heap[g]?) : R.OwnC W' v l := by
  rcases h with h | ⟨g, rest, rfl, hr⟩
  · exact .inl (h.block hk)
  · exact .inr ⟨g, rest, rfl, (hk g rfl).trans hr⟩
theorem RT.OwnC.below {W W' : World} {v : Value} {l : List α} (h : R.OwnC W v l) (hb : Below W.heap.size W W') : R.OwnC W' v l := h.block (fun g hg => hb.block g (h.lt hg))
theorem RT.OwnC.rd {W : World} {v : Value} {l : List α} (h : R.OwnC W v l) : Rd W v l.length (R.cells l) := by
  rcases h with h | ⟨g, rest, rfl, hr⟩
  · exact h.rd
  · refine ⟨_, _, rfl, .inr ⟨g, 0, rfl, (Array.getElem?_eq_some_iff.1 hr).1, Nat.le_refl _, fun j u hu => ?_⟩⟩
    have hj := (List.getElem?_eq_some_iff.1 hu).1
    rw [Nat.zero_add, cell_at hr j, List.getElem?_toArray, List.getElem?_append_left hj]
    exact hu
theorem RT.OwnC.cut {W : World} {a : Option Addr} {c : Nat} {l : List α} (h : R.OwnC W (.slice a l.length c) l) {i : Nat} (hi : i ≤ l.length) : R.OwnC W (.slice a i i) (l.take i) := by
  have hlt : (l.take i).length = i := by rw [List.length_take]; omega
  have hcl : R.cells l = R.cells (l.take i) ++ R.cells (l.drop i) := by rw [← R.cells_app, List.take_append_drop]
  rcases h with h | ⟨g, rest, he, hr⟩
  · rcases h.2 with ⟨he, hn⟩ | ⟨g, cap, cur, he, hb, hg, hc, hm, hs, ht⟩
    · injection he with e1 e2 e3
      subst e1
      have : i = 0 := by omega
      subst this
      exact .inl (RT.Own.nil R W)
    · injection he with e1 e2 e3
      subst e1
      refine .inr ⟨g, R.cells (l.drop i) ++ cur.toList.drop (l.length * R.K), by rw [hlt], ?_⟩
      unfold RT.PR
      rw [← List.append_assoc, ← hcl, ← ht, List.take_append_drop]
      exact hg
  · injection he with e1 e2 e3
    subst e1
    refine .inr ⟨g, R.cells (l.drop i) ++ rest, by rw [hlt], ?_⟩
    unfold RT.PR
    rw [← List.append_assoc, ← hcl]
    exact hr
/-- a part of it behind an element -/
theorem RT.OwnC.rdDrop {W : World} {g o cap : Nat} {l : List α} (h : R.OwnC W (.slice (some ⟨g, o, none⟩) l.length cap) l) (i : Nat) (hi : i ≤ l.length) (hc : l.length ≤ cap) (n c2 : Nat) (hn : n = l.length - i) (hc2 : c2 = cap - i) : Rd W (.slice (some ⟨g, o + i * R.K, none⟩) n c2) (l.drop i).length (R.cells (l.drop i)) :=
  R.rd_drop h.rd i c2 hi (by omega) n hn
theorem RT.OwnC.rdIf {W : World} {g cap : Nat} {l : List α} (h : R.OwnC W (.slice (some ⟨g, 0, none⟩) l.length cap) l) (i : Nat) (hi : i ≤ l.length) (hc : l.length ≤ cap) : Rd W (.slice (if cap = i then some ⟨g, 0, none⟩ else some ⟨g, i * R.K, none⟩) (l.length - i) (cap - i)) (l.drop i).length (R.cells (l.drop i)) := by
  by_cases e : cap = i
  · rw [if_pos e]
    have h0 : l.length - i = 0 := by omega
    have h1 : l.drop i = [] := List.drop_of_length_le (by omega)
    rw [h1, h0]
    exact ⟨_, _, rfl, .inl rfl⟩
  · rw [if_neg e]
    have := h.rdDrop i hi hc _ _ rfl rfl
    rwa [Nat.zero_add] at this
theorem RT.OwnC.row {W : World} {v : Value} {l : List α} (h : R.OwnC W v l) (hpos : 0 < l.length) : ∃ g cap rest, v = .slice (some ⟨g, 0, none⟩) l.length cap ∧ l.length ≤ cap ∧ g < W.heap.size ∧ R.PR W g l rest ∧ ∀ W' (l' : List α), l'.length = l.length → R.PR W' g l' rest → R.OwnC W' (.slice (some ⟨g, 0, none⟩) l.length cap) l' := by
  rcases h with h | ⟨g, rest, rfl, hr⟩
  · obtain ⟨g, cap, rest, rfl, hc, hg, hr, hback⟩ := h.row hpos
    refine ⟨g, cap, rest, rfl, hc, hg, hr, fun W' l' hl hr' => .inl ?_⟩
    have := hback W' l' l.length (Nat.le_refl _) hl hr'
    rwa [List.take_of_length_le (Nat.le_of_eq hl)] at this
  · exact ⟨g, _, rest, rfl, Nat.le_refl _, (Array.getElem?_eq_some_iff.1 hr).1, hr, fun W' l' hl hr' => .inr ⟨g, rest, by rw [hl], hr'⟩⟩
/-- such a row as a thing -/
def RT.rowC (R : RT α) (v : Value) (l : List α) : Th := ⟨fun F W => R.OwnC W v l ∧ ∀ k, F k ↔ v.ownBlock = some k, fun _ _ h k hk => h.1.lt ((h.2 k).1 hk), fun _ _ _ h hk => ⟨h.1.block (fun g hg => hk g ((h.2 g).2 hg)), h.2⟩⟩
theorem Zoo.ownC {W0 W : World} {L : List Th} {v : Value} {l : List α} (h : Zoo W0 W L) (i : Nat) (hi : L[i]? = some (R.rowC v l)) : R.OwnC W v l := by
  obtain ⟨F, h1, _⟩ := h.get i _ hi
  exact h1.1
theorem Zoo.newRowC {W0 W W' : World} {L : List Th} (h : Zoo W0 W L) (hb : Below W.heap.size W W') {v : Value} {l : List α} (ho : R.OwnC W' v l) (hf : ∀ g, v.ownBlock = some g → W.heap.size ≤ g) : Zoo W0 W' (R.rowC v l :: L) :=
  h.more hb _ (fun k => v.ownBlock = some k) ⟨ho, fun _ => Iff.rfl⟩ hf
/-- one field of one element is written -/
theorem Zoo.putFieldC {W0 W : World} {L : List Th} {v : Value} {l : List α} (h : Zoo W0 W L) (i : Nat) (hi : L[i]? = some (R.rowC v l)) (j : Nat) (hj : j < l.length) (r : Nat) (hr : r < R.K) (u : Value) (x : α) (hx : R.enc x = (R.enc l[j]).set r u) :
    ∃ g cap, v = .slice (some ⟨g, 0, none⟩) l.length cap ∧ W0.heap.size ≤ g ∧ g < W.heap.size ∧ (∀ r, r < R.K → W.cell? ⟨g, j * R.K + r, none⟩ = (R.enc l[j])[r]?) ∧ (∀ k, W.frozen? ⟨g, k, none⟩ = false) ∧ Zoo W0 (W.setCell ⟨g, j * R.K + r, none⟩ u) (L.set i (R.rowC v (l.set j x))) := by
  obtain ⟨F, ⟨ho, hF⟩, hlow, hact⟩ := h.act i _ hi
  obtain ⟨g, cap, rest, rfl, -, hg, hrow, hback⟩ := ho.row (by omega)
  have h2 := hback _ _ (by rw [List.length_set]) (hrow.put j r hj hr u x hx)
  exact ⟨g, cap, rfl, hlow g ((hF g).2 rfl), hg, fun r hr1 => hrow.cell j r hj hr1, hrow.free, hact _ _ _ ⟨h2, fun _ => Iff.rfl⟩ (grows_set hF rfl u (fun k hk => hk))⟩
theorem run_append_emptyC {W : World} {v : Value} {l : List α} (t ty : TypeId) (ht : Try.prog.underlying t = some (.slice R.t)) (h : R.OwnC W v l) (ao : Option Addr) (c : Nat) : (Builtin.append_ #[t, t] ty #[v, .slice ao 0 c]).run Try.prog W = .ok v W := by
  obtain ⟨i, hi0, hz, hz1, hz2⟩ := info_parts R.info
  rcases h with h | ⟨g, rest, rfl, hr⟩
  · exact run_append_owned_empty 0 t ty R.t i R.K ht hi0 v l.length _ h ao c
  · cases ao <;> simp [Builtin.append_, run_underlying ht, sizeOf, typeInfo, hi0, Builtin.lenOf, Builtin.firstCells, storeCells, loadCells, loadCellsFrom]
/-- 'append(v, v2...)' -/
theorem RT.wp_appendC (R : RT α) {w : World} {o : Oper} {a : Act} {K : Act → World → Prop} {Q : Exit → Act → World → Prop} (s x : Operand)
    (ho : o.op = .call { callee := .builtin .append, args := #[s, x], argTypes := #[R.ts, R.ts] })
    (v v2 : Value) (l news : List α) (hs : a.eval s = v) (hx : a.eval x = v2) (hown : R.OwnC w v l) (h2 : Rd w v2 news.length (R.cells news)) (hlen : l.length + news.length ≤ 1000000)
    (h : ∀ v' w', R.OwnC w' v' (l ++ news) → w.grownBy w' v.ownBlock → (∀ g, v'.ownBlock = some g → v.ownBlock = some g ∨ w.heap.size ≤ g) → K (a.put o.dst v') w') : Oper.wp Try.prog o a w K Q := by
  have hbb := R.bb
  have hby : (l.length + news.length) * R.bytes ≤ 140737488355328 := by
    have := Nat.mul_le_mul (show l.length + news.length ≤ 1000000 from hlen) hbb
    omega
  rcases hown with hown | ⟨g, rest, rfl, hr⟩
  · refine wp_append_rd s x R.ts ho 0 R.t _ R.K R.bytes R.und R.info R.zs R.pos v v2 l.length news.length (R.cells l) (R.cells news) hs hx hown h2 (R.cells_len _) (R.cells_one _) (by unfold maxLen; omega) hby (Nat.zero_le _) ?_
    intro v' w' ho' hg' hat
    refine h v' w' (.inl ?_) hg' hat
    unfold RT.Own
    rw [List.length_append, R.cells_app]
    exact ho'
  · obtain ⟨i, hi0, hz, hz1, hz2⟩ := info_parts R.info
    obtain ⟨ao, cap, rfl, h3⟩ := h2
    rcases Nat.eq_zero_or_pos news.length with hn | hm
    · have hnil := List.eq_nil_of_length_eq_zero hn
      subst hnil
      have hrun := run_append_emptyC (R := R) R.ts o.type R.und (.inr ⟨g, rest, rfl, hr⟩ : R.OwnC w _ l) ao cap
      rw [List.length_nil] at hx
      unfold Oper.wp
      simp [execOp, ho, resolve, invoke, builtin, hs, hx, hrun, Result.andThen]
      exact h _ _ (.inr ⟨g, rest, by simp, by simpa using hr⟩) ⟨rfl, rfl, rfl, Nat.le_refl _, fun _ _ _ => rfl⟩ (fun g hg => .inl hg)
    · rcases h3 with h3 | ⟨b, off, rfl, hlt, _, hc⟩
      · omega
      · have hold : ∀ j u, (R.cells l)[j]? = some u → w.cell? ((⟨g, 0, none⟩ : Addr).add j) = some u := fun j u hu => by
          have hj := (List.getElem?_eq_some_iff.1 hu).1
          rw [Addr.add_lit, Nat.zero_add, cell_at hr j, List.getElem?_toArray, List.getElem?_append_left hj]
          exact hu
        obtain ⟨v', w', hrun, r1, r2⟩ := run_append_arg_grows (P := Try.prog) w R.ts o.type R.t i R.z R.K R.bytes R.und hi0 hz hz1 hz2 R.zs R.pos ⟨g, 0, none⟩ l.length l.length (R.cells l) (R.cells_len _) hold ⟨b, off, none⟩ news.length cap (R.cells news) (R.cells_len _) (fun j u hu => by rw [Addr.add_lit]; exact hc j u hu) (by omega) (by unfold maxLen; omega) hby
        unfold Oper.wp
        simp [execOp, ho, resolve, invoke, builtin, hs, hx, hrun, Result.andThen]
        refine h v' w' (.inl ?_) ⟨r2.os, r2.tape, r2.output, r2.size, fun k hk _ => r2.block k hk (by simp)⟩ (fun k hk => .inr (World.ownsRow.lt r1 k hk).1)
        have r3 : w'.ownsRow 0 R.t R.K v' (l ++ news).length (R.cells (l ++ news)) := by
          rw [List.length_append, R.cells_app]
          refine ⟨r1.1, ?_⟩
          rcases r1.2 with q | ⟨g1, cap1, cur1, q1, q2, q3⟩
          · exact .inl q
          · exact .inr ⟨g1, cap1, cur1, q1, Nat.zero_le _, q3⟩
        exact r3
theorem RT.wpList_appendC (R : RT α) {w : World} {ops : Array Oper} {rest : List Oper} {o : Oper} {a : Act} {Q : Exit → Act → World → Prop} (hgd : o.guard = none) (s x : Operand)
    (ho : o.op = .call { callee := .builtin .append, args := #[s, x], argTypes := #[R.ts, R.ts] })
    (v v2 : Value) (l news : List α) (hs : a.eval s = v) (hx : a.eval x = v2) (hown : R.OwnC w v l) (h2 : Rd w v2 news.length (R.cells news)) (hlen : l.length + news.length ≤ 1000000)
    (h : ∀ v' w', R.OwnC w' v' (l ++ news) → w.grownBy w' v.ownBlock → (∀ g, v'.ownBlock = some g → v.ownBlock = some g ∨ w.heap.size ≤ g) → wpList Try.prog ops Q rest (a.put o.dst v') w') : wpList Try.prog ops Q (o :: rest) a w :=
  wpList_plain hgd fun _ hK => R.wp_appendC s x ho v v2 l news hs hx hown h2 hlen fun v' w' h2 h3 h4 => hK _ _ (h v' w' h2 h3 h4)
theorem RT.step_appendC (R : RT α) {w : World} {ops : Array Oper} {o : Oper} {a : Act} {K : Act → World → Prop} {Q : Exit → Act → World → Prop} {E : Prop} (hgd : o.guard = none) (s x : Operand)
    (ho : o.op = .call { callee := .builtin .append, args := #[s, x], argTypes := #[R.ts, R.ts] })
    (v v2 : Value) (l news : List α) (hs : a.eval s = v) (hx : a.eval x = v2) (hown : R.OwnC w v l) (h2 : Rd w v2 news.length (R.cells news)) (hlen : l.length + news.length ≤ 1000000)
    (h : ∀ v' w', R.OwnC w' v' (l ++ news) → w.grownBy w' v.ownBlock → (∀ g, v'.ownBlock = some g → v.ownBlock = some g ∨ w.heap.size ≤ g) → K (a.put o.dst v') w') :
    if Region.wanted o (yielded ops a.tmps) = true then Oper.wp Try.prog o a w K Q else E := by
  have hw : Region.wanted o (yielded ops a.tmps) = true := by simp [Region.wanted, hgd]
  rw [if_pos hw]
  exact R.wp_appendC s x ho v v2 l news hs hx hown h2 hlen h
/-- .. and what lies apart from it stays -/
theorem Zoo.appC {W0 W W' : World} {L : List Th} {v v' : Value} {l l' : List α} (h : Zoo W0 W L) (i : Nat) (hi : L[i]? = some (R.rowC v l)) (ho : R.OwnC W' v' l') (hg : W.grownBy W' v.ownBlock) (hat : ∀ g, v'.ownBlock = some g → v.ownBlock = some g ∨ W.heap.size ≤ g) : Zoo W0 W' (L.set i (R.rowC v' l')) := by
  obtain ⟨F, ⟨_, hF⟩, hlow, hact⟩ := h.act i _ hi
  exact hact _ _ _ ⟨ho, fun _ => Iff.rfl⟩ (grows_row hF hg hat)
end
end Go.Proofs.Ytcnebfmlelcliaa
namespace Go.Proofs.Ytcnebfmlelcliaa
open Go.RowKit
def rowT : RT (Nat × Nat) where
  enc := rngCells
  K := 2
  t := 63
  ts := 23
  z := .agg #[.int .u64 0, .int .u64 0]
  bytes := 16
  len := fun _ => rfl
  one := fun x u hu => by simp [rngCells] at hu; rcases hu with rfl | rfl <;> rfl
  pos := by decide
  und := Try.underlying23
  info := by kernel_rfl
  zs := rfl
  bb := by decide
/-- what of a reply counts here: its kind and number, and where its values lie -/
structure Rp where
  kind : Nat
  n : Nat
  va : Option Addr
  vn : Nat
  vc : Nat
def rpCells (y : Rp) : List Value := [.int .i64 y.kind, .string ⟨#[]⟩, .string ⟨#[]⟩, .string ⟨#[]⟩, .int .u64 y.n, .slice none 0 0, .int .u64 0, .slice none 0 0, .string ⟨#[]⟩, .slice y.va y.vn y.vc]
def rpT : RT Rp where
  enc := rpCells
  K := 10
  t := 61
  ts := 53
  z := .agg #[.int .i64 0, .string ⟨#[]⟩, .string ⟨#[]⟩, .string ⟨#[]⟩, .int .u64 0, .slice none 0 0, .int .u64 0, .slice none 0 0, .string ⟨#[]⟩, .slice none 0 0]
  bytes := 160
  len := fun _ => rfl
  one := fun x u hu => by simp [rpCells] at hu; rcases hu with rfl | rfl | rfl | rfl | rfl | rfl | rfl | rfl | rfl | rfl <;> rfl
  pos := by decide
  und := Try.underlying53
  info := by kernel_rfl
  zs := rfl
  bb := by decide
/-- what a reply tells -/
def Rp.say (y : Rp) : Nat × Nat := (y.kind, y.n)
/-- a letter, as a view has it -/
def ltRow (y : LtV) : Nat × Nat := (y.x.uid, y.x.mod)
/-- where a letter of a Uid stands, from one on; 0: there is none -/
def lettI : List LtV → Nat → Nat
  | [], _ => 0
  | r :: l, uid => if r.x.uid = uid then 1 else match lettI l uid with
    | 0 => 0
    | n + 1 => n + 2
end Go.Proofs.Ytcnebfmlelcliaa
namespace Go.Proofs.Ytcnebfmlelcliaa
set_option linter.unusedSimpArgs false
open Go.RowKit
theorem lettI_none : ∀ {l : List LtV} {uid : Nat}, (∀ r ∈ l, r.x.uid ≠ uid) → lettI l uid = 0
  | [], _, _ => rfl
  | r :: l, uid, h => by
    have h1 : lettI l uid = 0 := lettI_none (fun x hx => h x (by simp [hx]))
    unfold lettI
    rw [if_neg (h r (by simp)), h1]
theorem lettI_at : ∀ {l : List LtV} {uid q : Nat} (hq : q < l.length), (∀ r ∈ l.take q, r.x.uid ≠ uid) → l[q].x.uid = uid → lettI l uid = q + 1
  | r :: l, uid, 0, _, _, h => by unfold lettI; rw [if_pos (by simpa using h)]
  | r :: l, uid, q + 1, hq, h1, h2 => by
    have h3 : lettI l uid = q + 1 := lettI_at (by simpa using hq) (fun x hx => h1 x (by simp [hx])) (by simpa using h2)
    unfold lettI
    rw [if_neg (h1 r (by simp)), h3]
theorem lettI_le : ∀ (l : List LtV) (uid : Nat), lettI l uid ≤ l.length
  | [], _ => Nat.le_refl _
  | r :: l, uid => by
    have := lettI_le l uid
    unfold lettI
    split
    · simp
    · split
      · simp
      · rename_i n h; rw [List.length_cons]; omega
theorem let_no {l : List LtV} {q uid : Nat} (hq : q < l.length) (h : ∀ r ∈ l.take q, r.x.uid ≠ uid) (h2 : l[q].x.uid ≠ uid) : ∀ r ∈ l.take (q + 1), r.x.uid ≠ uid := fun r hr => by
  rw [List.take_succ_eq_append_getElem hq, List.mem_append, List.mem_singleton] at hr
  rcases hr with hr | rfl
  · exact h r hr
  · exact h2
set_option maxHeartbeats 1000000 in
theorem letIs_any (y : LtV) (U uid : Nat) (w : World) (hU : Boxed w U 22 (.int .u64 uid)) :
    Calls Try.prog 55 #[.agg #[.int .u64 y.x.uid, .slice y.a y.x.flags.length y.c, .int .u64 y.x.mod, .string y.x.hash, .int .u64 y.x.size], .pointer (some ⟨U, 0, none⟩)] w fun e w' => e = .returned (.bool (decide (y.x.uid = uid))) ∧ Hid (Below w.heap.size w w') := by
  obtain ⟨⟨f, fl, m, hs, sz⟩, a, c⟩ := y
  dsimp only
  have hb := (Below.refl _ w).alloc (Nat.le_refl _) (.cells #[.int .u64 f, .slice a fl.length c, .int .u64 m, .string hs, .int .u64 sz] 66)
  have cU := (boxed_below hU hb).cell
  replace hb := Lib.hid hb
  clear hU
  generalize fl.length = n at cU hb ⊢
  by_cases h : f = uid
  · have e1 : ((f : Int) == (uid : Int)) = true := by rw [h]; simp
    have hd := Lib.hid (decide_eq_true h)
    clear h
    go_enter Try.func55, Try.ntmps55
    go_wp2_with fail
    go_ret
    exact ⟨by rw [hd.out]; rfl, hb⟩
  · have e1 : ((f : Int) == (uid : Int)) = false := by rw [beq_eq_false_iff_ne]; omega
    have hd := Lib.hid (decide_eq_false h)
    clear h
    go_enter Try.func55, Try.ntmps55
    go_wp2_with fail
    go_ret
    exact ⟨by rw [hd.out]; rfl, hb⟩
theorem LtsIn.at_ {W : World} {v : Value} {rows : List LtV} (h : LtsIn W v rows) {j : Nat} (hj : j < rows.length) : ∃ b o cap, v = .slice (some ⟨b, o, none⟩) rows.length cap ∧ b < W.heap.size ∧
    W.cell? ⟨b, o + j * 5, none⟩ = some (.int .u64 rows[j].x.uid) ∧ W.cell? ⟨b, o + j * 5 + 1, none⟩ = some (.slice rows[j].a rows[j].x.flags.length rows[j].c) ∧ W.cell? ⟨b, o + j * 5 + 2, none⟩ = some (.int .u64 rows[j].x.mod) ∧ W.cell? ⟨b, o + j * 5 + 3, none⟩ = some (.string rows[j].x.hash) ∧ W.cell? ⟨b, o + j * 5 + 4, none⟩ = some (.int .u64 rows[j].x.size) := by
  obtain ⟨b, o, cap, hv, -, hb, hc⟩ := ltT.rd_cells h.1 hj
  have hc2 : ∀ r u, (ltCells rows[j])[r]? = some u → W.cell? ⟨b, o + j * 5 + r, none⟩ = some u := fun r u hu => by
    have := hc r u hu
    rw [Nat.add_assoc]; exact this
  exact ⟨b, o, cap, hv, hb, hc2 0 _ rfl, hc2 1 _ rfl, hc2 2 _ rfl, hc2 3 _ rfl, hc2 4 _ rfl⟩
set_option maxRecDepth 100000 in
set_option maxHeartbeats 2000000 in
theorem letIdx_any (l : List LtV) (v : Value) (U uid : Nat) (w : World) (hl : l.length ≤ 1000000) (hU : Boxed w U 22 (.int .u64 uid)) (hk : LtsIn w v l) :
    Calls Try.prog 54 #[v, .func (.func 55) #[] #[.pointer (some ⟨U, 0, none⟩)]] w fun e w' => e = .returned (.int .i64 ((lettI l uid : Int) - 1)) ∧ Hid (Below w.heap.size w w') := by
  have hk0 := Lib.hid hk
  have hwa := Lib.hid letIs_any
  obtain ⟨ao, cap, rfl, _⟩ := hk.1
  clear hk
  replace hU := Lib.hid hU
  go_enter Try.func54, Try.ntmps54
  go_wp2_with fail
  go_loopw [8] (fun v8 wr => ∃ q : Nat, v8 = .int .i64 q ∧ q ≤ l.length ∧ Hid (∀ r ∈ l.take q, r.x.uid ≠ uid) ∧ Hid (Below w.heap.size w wr)) (fun v8 _ => l.length - (intOf v8).toNat)
  case atStart => exact ⟨0, rfl, Nat.zero_le _, Lib.hid (by simp), Lib.hid (Below.refl _ _)⟩
  case round =>
    obtain ⟨q, rfl, hq, hno, hb⟩ := hrel
    by_cases hlt : q < l.length
    · obtain ⟨b, o, cap', hv, hbB, c0, c1, c2, c3, c4⟩ := (hk0.out.below hb.out).at_ hlt
      injection hv with q1 q2 q3
      subst q1 q3
      have hstep := let_no hlt hno.out
      have hyes := lettI_at hlt hno.out
      have hcall := Lib.hid (hwa.out l[q] U uid wr (boxed_below hU.out hb.out))
      generalize l[q] = k at c0 c1 c2 c3 c4 hstep hyes hcall
      obtain ⟨⟨kf, kfl, km, kh, ks⟩, ka, kc⟩ := k
      dsimp only at c0 c1 c2 c3 c4 hstep hyes hcall
      generalize kfl.length = kn at c1 hcall
      have hl1 : (q : Int) < (l.length : Int) := by omega
      by_cases hB : kf = uid
      · rw [decide_eq_true hB] at hcall
        have hyy := Lib.hid (hyes hB)
        clear hstep hyes hB
        go_wp2_with fail
        refine hcall.out.mono ?_
        rintro e w3 ⟨rfl, hb3⟩
        have hb4 := Lib.hid (hb.out.trans (hb3.out.mono hb.out.size))
        clear hcall hb3 c0 c1 c2 c3 c4
        go_wp2_with fail
        go_ret
        exact ⟨by rw [hyy.out]; simp, hb4⟩
      · rw [decide_eq_false hB] at hcall
        replace hstep := Lib.hid (hstep hB)
        clear hyes hB
        go_wp2_with fail
        refine hcall.out.mono ?_
        rintro e w3 ⟨rfl, hb3⟩
        have hb4 := Lib.hid (hb.out.trans (hb3.out.mono hb.out.size))
        clear hcall hb3 c0 c1 c2 c3 c4
        go_wp2_with fail
        go_roundw
        case rel => exact ⟨q + 1, by go_num, by omega, hstep, hb4⟩
        case measure => simp [intOf] <;> omega
    · obtain rfl : q = l.length := by omega
      have hz : Hid (lettI l uid = 0) := Lib.hid (lettI_none (by have := hno.out; rwa [List.take_length] at this))
      go_wp2_with fail
      go_ret
      exact ⟨by rw [hz.out]; rfl, hb⟩
set_option maxRecDepth 100000 in
set_option maxHeartbeats 2000000 in
theorem letter_any (z : BxV) (uid : Nat) (w : World) (hl : z.rows.length ≤ 1000000) (hk : LtsIn w z.v z.rows) :
    Calls Try.prog 40 #[.agg #[.string z.name, .int .u64 z.validity, .int .u64 z.next, .int .u64 z.high, .slice z.a z.rows.length z.c], .int .u64 uid] w fun e w' => e = .returned (.int .i64 ((lettI z.rows uid : Int) - 1)) ∧ Hid (Below w.heap.size w w') := by
  obtain ⟨nm, vl, nx, hi, rows, a, c⟩ := z
  dsimp only
  obtain ⟨W1, hW1⟩ : ∃ W1, W1 = w.alloc (.cells #[.string nm, .int .u64 vl, .int .u64 nx, .int .u64 hi, .slice a rows.length c] 28) := ⟨_, rfl⟩
  obtain ⟨W2, hW2⟩ : ∃ W2, W2 = W1.alloc (.cells #[.int .u64 uid] 22) := ⟨_, rfl⟩
  have s1 : W1.heap.size = w.heap.size + 1 := by rw [hW1]; simp
  have m2 : Boxed W2 (w.heap.size + 1) 22 (.int .u64 uid) := by rw [hW2, ← s1]; exact cells_new W1 _ _
  have b1 : Below w.heap.size w W1 := by rw [hW1]; exact (Below.refl _ w).alloc (Nat.le_refl _) _
  have b2 : Below W1.heap.size W1 W2 := by rw [hW2]; exact (Below.refl _ W1).alloc (Nat.le_refl _) _
  have bw : Below w.heap.size w W2 := b1.trans (b2.mono b1.size)
  have hk2 : LtsIn W2 (.slice a rows.length c) rows := hk.below bw
  have hcall := letIdx_any rows (.slice a rows.length c) (w.heap.size + 1) uid W2 hl m2 hk2
  rw [hW2, hW1] at hcall bw
  replace hcall := Lib.hid hcall
  replace bw := Lib.hid bw
  clear hk2 m2 b1 b2 s1 hW2 hW1 W1 W2 hk hl
  generalize lettI rows uid = LI at hcall ⊢
  generalize rows.length = rn at hcall bw ⊢
  go_enter Try.func40, Try.ntmps40
  go_wp2_with fail
  refine hcall.out.mono ?_
  rintro e w1 ⟨rfl, hb⟩
  have hb9 := Lib.hid (bw.out.trans (hb.out.mono bw.out.size))
  clear hb bw hcall
  go_wp2_with fail
  go_ret
  exact ⟨rfl, hb9⟩
end Go.Proofs.Ytcnebfmlelcliaa
namespace Go.Proofs.Ytcnebfmlelcliaa
open Go.RowKit
theorem lettI_zero : ∀ {rows : List LtV} {u : Nat}, lettI rows u = 0 → modAt (rows.map ltRow) u = none
  | [], _, _ => rfl
  | r :: l, u, h => by
    unfold lettI at h
    split at h
    · cases h
    · rename_i hne
      have h2 : lettI l u = 0 := by
        cases hl : lettI l u with
        | zero => rfl
        | succ n => rw [hl] at h; cases h
      have := lettI_zero h2
      unfold modAt at this ⊢
      have e : ((ltRow r).1 == u) = false := beq_eq_false_iff_ne.2 hne
      simp only [List.map_cons, List.find?, e]
      exact this
theorem lettI_succ : ∀ {rows : List LtV} {u k : Nat}, lettI rows u = k + 1 → ∃ hk : k < rows.length, rows[k].x.uid = u ∧ modAt (rows.map ltRow) u = some rows[k].x.mod
  | r :: l, u, k, h => by
    unfold lettI at h
    split at h
    · rename_i he
      have : k = 0 := by omega
      subst this
      refine ⟨by simp, he, ?_⟩
      unfold modAt
      have e : ((ltRow r).1 == u) = true := beq_iff_eq.2 he
      simp only [List.map_cons, List.find?, e]
      rfl
    · rename_i hne
      cases hl : lettI l u with
      | zero => rw [hl] at h; cases h
      | succ n =>
        rw [hl] at h
        have : k = n + 1 := by simpa using h.symm
        subst this
        obtain ⟨h1, h2, h3⟩ := lettI_succ hl
        refine ⟨by simpa using h1, h2, ?_⟩
        unfold modAt at h3 ⊢
        have e : ((ltRow r).1 == u) = false := beq_eq_false_iff_ne.2 hne
        simp only [List.map_cons, List.find?, e]
        exact h3
theorem expR_step (l b : List (Nat × Nat)) (k : Nat) : expR l b (k + 1) = if (modAt b (l[k]?.getD (0, 0)).1).isSome then expR l b k else (9, k + 1) :: expR l b k := rfl
theorem expR_len (l b : List (Nat × Nat)) : ∀ k, (expR l b k).length ≤ k
  | 0 => Nat.le_refl _
  | k + 1 => by
    have := expR_len l b k
    unfold expR
    split
    · omega
    · rw [List.length_cons]; omega
/-- the loop of the expunges, with k rows to go -/
structure ExpI (l b : List (Nat × Nat)) (k : Nat) (cur : List (Nat × Nat)) (rps : List Rp) : Prop where
  cur : cur = l.take k ++ (l.drop k).filter (fun r => (modAt b r.1).isSome)
  say : rps.map Rp.say ++ expR l b k = expR l b l.length
theorem ExpI.start (l b : List (Nat × Nat)) : ExpI l b l.length l [] := ⟨by simp, rfl⟩
theorem ExpI.yes {l b cur : List (Nat × Nat)} {k : Nat} {rps : List Rp} (h : ExpI l b (k + 1) cur rps) (hk : k < l.length) (hs : (modAt b l[k].1).isSome = true) : ExpI l b k cur rps := by
  refine ⟨?_, ?_⟩
  · rw [h.cur, List.take_succ_eq_append_getElem hk, List.drop_eq_getElem_cons hk, List.filter_cons_of_pos (by simpa using hs), List.append_assoc]; rfl
  · have := h.say
    have hg : l[k]?.getD (0, 0) = l[k] := by rw [List.getElem?_eq_getElem hk]; rfl
    rw [expR_step, hg, if_pos hs] at this
    exact this
theorem ExpI.no {l b cur : List (Nat × Nat)} {k : Nat} {rps : List Rp} (h : ExpI l b (k + 1) cur rps) (hk : k < l.length) (hs : ¬ (modAt b l[k].1).isSome = true) (y : Rp) (hy : y.say = (9, k + 1)) : ExpI l b k (cur.take k ++ cur.drop (k + 1)) (rps ++ [y]) := by
  have hl1 : (l.take (k + 1)).length = k + 1 := by rw [List.length_take]; omega
  refine ⟨?_, ?_⟩
  · rw [h.cur, List.drop_left' hl1, List.take_append_of_le_length (by omega), List.take_take, Nat.min_eq_left (Nat.le_succ k), List.drop_eq_getElem_cons hk, List.filter_cons_of_neg (by simpa using hs)]
  · have := h.say
    have hg : l[k]?.getD (0, 0) = l[k] := by rw [List.getElem?_eq_getElem hk]; rfl
    rw [expR_step, hg, if_neg hs] at this
    rw [List.map_append, List.append_assoc, ← this]
    simp [hy]
theorem ExpI.lens {l b cur : List (Nat × Nat)} {k : Nat} {rps : List Rp} (h : ExpI l b k cur rps) (hk : k ≤ l.length) : k ≤ cur.length ∧ cur.length ≤ l.length ∧ rps.length ≤ l.length := by
  have h1 : (l.take k).length = k := by rw [List.length_take]; omega
  have h2 := List.length_filter_le (fun r : Nat × Nat => (modAt b r.1).isSome) (l.drop k)
  rw [List.length_drop] at h2
  have h3 := congrArg List.length h.say
  rw [List.length_append, List.length_map] at h3
  have h4 := expR_len l b l.length
  rw [h.cur, List.length_append, h1]
  omega
theorem ExpI.at_ {l b cur : List (Nat × Nat)} {k : Nat} {rps : List Rp} (h : ExpI l b (k + 1) cur rps) (hk : k < l.length) : ∃ hc : k < cur.length, cur[k] = l[k] := by
  have hc : k < cur.length := by have := (h.lens hk).1; omega
  refine ⟨hc, ?_⟩
  have h1 : (l.take (k + 1)).length = k + 1 := by rw [List.length_take]; omega
  have := h.cur
  subst this
  rw [List.getElem_append_left (by omega), List.getElem_take]
theorem ExpI.done {l b cur : List (Nat × Nat)} {rps : List Rp} (h : ExpI l b 0 cur rps) : cur = keptL l b true ∧ rps.map Rp.say = expR l b l.length := by
  refine ⟨?_, ?_⟩
  · have := h.cur; simpa [keptL] using this
  · have := h.say; rwa [show expR l b 0 = [] from rfl, List.append_nil] at this
theorem ExpI.none {l b cur : List (Nat × Nat)} {rps : List Rp} (h : ExpI l b l.length cur rps) : cur = keptL l b false ∧ rps.map Rp.say = [] := by
  refine ⟨?_, ?_⟩
  · have := h.cur; simpa [keptL] using this
  · have := h.say
    have h2 := congrArg List.length this
    rw [List.length_append] at h2
    exact List.eq_nil_of_length_eq_zero (by omega)
/-- the loop of the new letters, q of them looked at -/
def NewI (kept b : List (Nat × Nat)) (q : Nat) (cur : List (Nat × Nat)) : Prop := cur = kept ++ (b.take q).filter (fun x => decide (mostL kept < x.1))
theorem NewI.start (kept b : List (Nat × Nat)) : NewI kept b 0 kept := by simp [NewI]
theorem NewI.yes {kept b cur : List (Nat × Nat)} {q : Nat} (h : NewI kept b q cur) (hq : q < b.length) (hm : mostL kept < b[q].1) : NewI kept b (q + 1) (cur ++ [b[q]]) := by
  unfold NewI at h ⊢
  rw [h, List.take_succ_eq_append_getElem hq, List.filter_append, List.append_assoc]
  have e : [b[q]].filter (fun x => decide (mostL kept < x.1)) = [b[q]] := List.filter_cons_of_pos (p := fun x : Nat × Nat => decide (mostL kept < x.1)) (by simpa using hm)
  rw [e]
theorem NewI.no {kept b cur : List (Nat × Nat)} {q : Nat} (h : NewI kept b q cur) (hq : q < b.length) (hm : ¬ mostL kept < b[q].1) : NewI kept b (q + 1) cur := by
  unfold NewI at h ⊢
  have e : [b[q]].filter (fun x => decide (mostL kept < x.1)) = [] := List.filter_cons_of_neg (p := fun x : Nat × Nat => decide (mostL kept < x.1)) (by simpa using hm)
  rw [h, List.take_succ_eq_append_getElem hq, List.filter_append, e, List.append_nil]
theorem NewI.done {kept b cur : List (Nat × Nat)} (h : NewI kept b b.length cur) : cur = kept ++ newsL kept b := by unfold NewI at h; rwa [List.take_length] at h
theorem NewI.lens {kept b cur : List (Nat × Nat)} {q : Nat} (h : NewI kept b q cur) : cur.length ≤ kept.length + b.length := by
  have h2 := List.length_filter_le (fun x : Nat × Nat => decide (mostL kept < x.1)) (b.take q)
  rw [List.length_take] at h2
  unfold NewI at h
  rw [h, List.length_append]; omega
/-- the loop of the fetches, q rows looked at -/
structure FetI (kept b news T : List (Nat × Nat)) (q : Nat) (cur : List (Nat × Nat)) (rps : List Rp) : Prop where
  cur : cur = (kept.take q).map (turnR b) ++ (kept.drop q ++ news)
  say : rps.map Rp.say ++ fetR b (kept.drop q) q = T
theorem FetI.still {kept b news T cur : List (Nat × Nat)} {q : Nat} {rps : List Rp} (h : FetI kept b news T q cur rps) (hq : q < kept.length) (hs : turnR b kept[q] = kept[q]) : FetI kept b news T (q + 1) cur rps := by
  refine ⟨?_, ?_⟩
  · rw [h.cur, List.take_succ_eq_append_getElem hq, List.map_append, List.drop_eq_getElem_cons hq, List.map_singleton, hs]
    simp only [List.cons_append, List.append_assoc, List.nil_append]
  · have := h.say
    rw [List.drop_eq_getElem_cons hq] at this
    unfold fetR at this
    rwa [if_pos hs] at this
theorem FetI.turn {kept b news T cur : List (Nat × Nat)} {q : Nat} {rps : List Rp} (h : FetI kept b news T q cur rps) (hq : q < kept.length) (hs : turnR b kept[q] ≠ kept[q]) (y : Rp) (hy : y.say = (14, q + 1)) : FetI kept b news T (q + 1) (cur.set q (turnR b kept[q])) (rps ++ [y]) := by
  have hl : ((kept.take q).map (turnR b)).length = q := by rw [List.length_map, List.length_take]; omega
  refine ⟨?_, ?_⟩
  · rw [h.cur, List.set_append_right _ _ (by omega), hl, Nat.sub_self, List.take_succ_eq_append_getElem hq, List.map_append, List.append_assoc, List.map_singleton]
    congr 1
    rw [List.drop_eq_getElem_cons hq]
    rfl
  · have := h.say
    rw [List.drop_eq_getElem_cons hq] at this
    unfold fetR at this
    rw [if_neg hs] at this
    rw [List.map_append, List.append_assoc, ← this]
    simp [hy]
theorem FetI.at_ {kept b news T cur : List (Nat × Nat)} {q : Nat} {rps : List Rp} (h : FetI kept b news T q cur rps) (hq : q < kept.length) : ∃ hc : q < cur.length, cur[q] = kept[q] := by
  have hl : ((kept.take q).map (turnR b)).length = q := by rw [List.length_map, List.length_take]; omega
  have hc : q < cur.length := by rw [h.cur, List.length_append, List.length_append, hl, List.length_drop]; omega
  refine ⟨hc, ?_⟩
  have := h.cur
  subst this
  rw [List.getElem_append_right (by omega), List.getElem_append_left (by rw [List.length_drop]; omega)]
  simp only [hl, List.getElem_drop, Nat.sub_self, Nat.add_zero]
theorem fetR_len (b : List (Nat × Nat)) : ∀ (l : List (Nat × Nat)) (k : Nat), (fetR b l k).length ≤ l.length
  | [], _ => Nat.le_refl _
  | r :: t, k => by
    have := fetR_len b t (k + 1)
    unfold fetR
    split
    · rw [List.length_cons]; omega
    · rw [List.length_cons, List.length_cons]; omega
theorem FetI.done {kept b news T cur : List (Nat × Nat)} {rps : List Rp} (h : FetI kept b news T kept.length cur rps) : cur = kept.map (turnR b) ++ news ∧ rps.map Rp.say = T := by
  refine ⟨?_, ?_⟩
  · have := h.cur; simpa using this
  · have := h.say; rw [List.drop_length] at this; unfold fetR at this; rwa [List.append_nil] at this
theorem FetI.lens {kept b news T cur : List (Nat × Nat)} {q : Nat} {rps : List Rp} (h : FetI kept b news T q cur rps) : rps.length ≤ T.length ∧ cur.length = kept.length + news.length := by
  have h3 := congrArg List.length h.say
  rw [List.length_append, List.length_map] at h3
  refine ⟨by omega, ?_⟩
  rw [h.cur, List.length_append, List.length_append, List.length_map, List.length_take, List.length_drop]; omega
theorem turnR_none {b : List (Nat × Nat)} {r : Nat × Nat} (h : modAt b r.1 = none) : turnR b r = r := by unfold turnR; rw [h]
theorem turnR_some {b : List (Nat × Nat)} {r : Nat × Nat} {m : Nat} (h : modAt b r.1 = some m) : turnR b r = (r.1, m) := by unfold turnR; rw [h]
theorem keptL_len (l b : List (Nat × Nat)) (e : Bool) : (keptL l b e).length ≤ l.length := by
  unfold keptL
  split
  · exact List.length_filter_le _ _
  · exact Nat.le_refl _
theorem newsL_len (l b : List (Nat × Nat)) : (newsL l b).length ≤ b.length := List.length_filter_le _ _
theorem tellR_len (l b : List (Nat × Nat)) (e : Bool) : (tellR l b e).length ≤ l.length + 1 + l.length := by
  have h1 := keptL_len l b e
  have h2 := fetR_len b (keptL l b e) 0
  have h3 := expR_len l b l.length
  unfold tellR
  rw [List.length_append, List.length_append]
  have h4 : (if e then expR l b l.length else []).length ≤ l.length := by
    split
    · exact h3
    · simp
  have h5 : (if newsL (keptL l b e) b = [] then [] else [(8, (keptL l b e).length + (newsL (keptL l b e) b).length)]).length ≤ 1 := by
    split <;> simp
  omega
/-- what of a value counts here -/
structure Vl where
  kind : Nat
  n : Nat
  a : Option Addr
  l : Nat
  c : Nat
def vlCells (y : Vl) : List Value := [.int .i64 y.kind, .int .u64 y.n, .slice y.a y.l y.c, .string ⟨#[]⟩, .bool false, .int .u64 0]
def vlT : RT Vl where
  enc := vlCells
  K := 6
  t := 85
  ts := 59
  z := .agg #[.int .i64 0, .int .u64 0, .slice none 0 0, .string ⟨#[]⟩, .bool false, .int .u64 0]
  bytes := 72
  len := fun _ => rfl
  one := fun x u hu => by simp [vlCells] at hu; rcases hu with rfl | rfl | rfl | rfl | rfl | rfl <;> rfl
  pos := by decide
  und := Try.underlying59
  info := by kernel_rfl
  zs := rfl
  bb := by decide
/-- what Sync hands back where the mailbox is the view's -/
def SyncRet (W : World) (s : ByteArray) (val : Nat) (l b : List (Nat × Nat)) (expunge : Bool) (e : Ending) (w' : World) : Prop :=
  ∃ (vr vo : Value) (rps : List Rp), e = .returned (.tuple #[.agg #[.string s, .int .u64 val, vr], vo]) ∧ Hid (Zoo W w' [rpT.row vo rps, rowT.rowC vr (syncL l b expunge)]) ∧ Hid (rps.map Rp.say = tellR l b expunge)
end Go.Proofs.Ytcnebfmlelcliaa
