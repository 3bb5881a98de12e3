/- MailNumbers: walked. (written by tools/gen_MoP.py) -/
import Derived.Test.YtdobbfjmlnlieaaGreatB38
namespace Go.Proofs.YtdobbfjmlnlieaaGreat
set_option linter.unusedSimpArgs false
open Go.RowKit
attribute [local go_sem ↓] Go.wp_at_zero Go.wp_at_succ

set_option maxRecDepth 100000 in
set_option maxHeartbeats 16000000 in
theorem mailNumbers_any (v lv : Value) (W : World) (hv : ∃ m : Ml, MlIn W v m) (hl : ∃ l : List RqP, RqsIn W lv l) :
    Calls Tryz.prog 5 #[v, lv] W fun e w' => e = .returned (.bool true) ∧ Below W.heap.size W w' := by
  obtain ⟨m, hin⟩ := hv
  obtain ⟨l, hl⟩ := hl
  obtain ⟨ab_, cb_, nb_, ah_, ch_, as_, cs_, rfl⟩ := hin.out_
  obtain ⟨al, cl, hlv, -⟩ := hl.1
  subst hlv
  have hin0 : Hid (∀ w', Below W.heap.size W w' → MlIn w' (.agg #[.slice ab_ nb_ cb_, .int .u64 m.nv, .slice ah_ m.homes.length ch_, .slice as_ m.seats.length cs_, .int .u64 m.ns, .int .u64 m.sweeps]) m) := Lib.hid (fun w' h => hin.below h)
  have hl0 : Hid (RqsIn W (.slice al l.length cl) l) := Lib.hid hl
  have hll : Hid (∀ w', Below W.heap.size W w' → RqsIn w' (.slice al l.length cl) l) := Lib.hid (fun w' h => hl.below h)
  have hz1 := (Zoo.nil W).newBox [.slice ab_ nb_ cb_, .int .u64 m.nv, .slice ah_ m.homes.length ch_, .slice as_ m.seats.length cs_, .int .u64 m.ns, .int .u64 m.sweeps].toArray 27
  have hlt1 : W.heap.size < (W.alloc (.cells [.slice ab_ nb_ cb_, .int .u64 m.nv, .slice ah_ m.homes.length ch_, .slice as_ m.seats.length cs_, .int .u64 m.ns, .int .u64 m.sweeps].toArray 27)).heap.size := by simp
  have hbd1 : Below W.heap.size W (W.alloc (.cells [.slice ab_ nb_ cb_, .int .u64 m.nv, .slice ah_ m.homes.length ch_, .slice as_ m.seats.length cs_, .int .u64 m.ns, .int .u64 m.sweeps].toArray 27)) := hz1.bel
  have hst1 := (stay_new hin).below hbd1
  generalize hMB : W.heap.size = MB at hz1 hst1 hlt1 hbd1
  generalize hWa : (W.alloc (.cells [.slice ab_ nb_ cb_, .int .u64 m.nv, .slice ah_ m.homes.length ch_, .slice as_ m.seats.length cs_, .int .u64 m.ns, .int .u64 m.sweeps].toArray 27)) = Wa at hz1 hst1 hlt1 hbd1
  replace hz1 := Lib.hid hz1
  replace hst1 := Lib.hid hst1
  replace hbd1 := Lib.hid hbd1
  replace hlt1 := Lib.hid hlt1
  clear hin hl
  go_enter Tryz.func5, Tryz.ntmps5
  go_upto_region 1 with fail
  clear hWa
  rw [← hMB] at hbd1
  replace hMB := Lib.hid hMB
  go_wp2_with fail
  refine (alive_any _).mono ?_
  rintro e w1 ⟨rfl, hb1⟩
  dsimp only
  have hz2 := Lib.hid (hz1.out.below hb1.out)
  have hst2 := Lib.hid (hst1.out.below hb1.out)
  have hlt2 := Lib.hid (Nat.lt_of_lt_of_le hlt1.out hb1.out.size)
  have hbd2 : Hid (Below W.heap.size W w1) := Lib.hid hz2.out.bel
  obtain ⟨hbM, -⟩ := hz2.out.box 0 rfl
  have x0 : w1.cell? ⟨MB, 0, none⟩ = some (.slice ab_ nb_ cb_) := box_cell hbM 0
  have x1 : w1.cell? ⟨MB, 1, none⟩ = some (.int .u64 m.nv) := box_cell hbM 1
  have x2 : w1.cell? ⟨MB, 2, none⟩ = some (.slice ah_ m.homes.length ch_) := box_cell hbM 2
  have x3 : w1.cell? ⟨MB, 3, none⟩ = some (.slice as_ m.seats.length cs_) := box_cell hbM 3
  have x4 : w1.cell? ⟨MB, 4, none⟩ = some (.int .u64 m.ns) := box_cell hbM 4
  have x5 : w1.cell? ⟨MB, 5, none⟩ = some (.int .u64 m.sweeps) := box_cell hbM 5
  clear hbM hz1 hst1 hlt1 hbd1 hb1
  go_wp2_with fail
  refine (light_any _ _ (hin0.out w1 hbd2.out) (hll.out w1 hbd2.out)).mono ?_
  rintro e w2 ⟨rfl, hb2⟩
  dsimp only
  have hz3 := Lib.hid (hz2.out.below hb2.out)
  have hst3 := Lib.hid (hst2.out.below hb2.out)
  have hlt3 := Lib.hid (Nat.lt_of_lt_of_le hlt2.out hb2.out.size)
  have hbd3 : Hid (Below W.heap.size W w2) := Lib.hid hz3.out.bel
  obtain ⟨hbM, -⟩ := hz3.out.box 0 rfl
  clear x0 x1 x2 x3 x4 x5 hb2 hz2 hst2 hlt2 hbd2
  have x0 : w2.cell? ⟨MB, 0, none⟩ = some (.slice ab_ nb_ cb_) := box_cell hbM 0
  have x1 : w2.cell? ⟨MB, 1, none⟩ = some (.int .u64 m.nv) := box_cell hbM 1
  have x2 : w2.cell? ⟨MB, 2, none⟩ = some (.slice ah_ m.homes.length ch_) := box_cell hbM 2
  have x3 : w2.cell? ⟨MB, 3, none⟩ = some (.slice as_ m.seats.length cs_) := box_cell hbM 3
  have x4 : w2.cell? ⟨MB, 4, none⟩ = some (.int .u64 m.ns) := box_cell hbM 4
  have x5 : w2.cell? ⟨MB, 5, none⟩ = some (.int .u64 m.sweeps) := box_cell hbM 5
  clear hbM
  generalize hB : lightB m (l.map (·.1)) = B
  replace hB := Lib.hid hB
  cases B with
  | false =>
    go_wp2_with fail
    refine (alive_any _).mono ?_
    rintro e w3 ⟨rfl, hb3⟩
    dsimp only
    have hbF := Lib.hid (hz3.out.below hb3.out).bel
    clear x0 x1 x2 x3 x4 x5 hz3
    go_wp2_with fail
    go_ret
    first | exact ⟨rfl, hbF.out⟩ | (rw [← hMB.out]; exact ⟨rfl, hbF.out⟩)
  | true =>
    go_wp2_with fail
    refine (begun_any _ (hin0.out w2 hbd3.out) (light_ask hB.out)).mono ?_
    intro e w3 hbr
    obtain ⟨C0, m0, rfl, hr0, hs0, hb3⟩ := hbr.right hst3.out hlt3.out
    obtain ⟨ab0, cb0, nb0, ah0, ch0, as0, cs0, rfl⟩ := hs0.now.shape
    dsimp only
    have hz4 := Lib.hid (hz3.out.below hb3)
    replace hr0 := Lib.hid hr0
    replace hs0 := Lib.hid hs0
    obtain ⟨hbM, -⟩ := hz4.out.box 0 rfl
    clear x0 x1 x2 x3 x4 x5 hbr hz3 hst3 hbd3
    have x0 : w3.cell? ⟨MB, 0, none⟩ = some (.slice ab_ nb_ cb_) := box_cell hbM 0
    have fx0 : w3.frozen? ⟨MB, 0, none⟩ = false := box_free hbM 0
    have x1 : w3.cell? ⟨MB, 1, none⟩ = some (.int .u64 m.nv) := box_cell hbM 1
    have fx1 : w3.frozen? ⟨MB, 1, none⟩ = false := box_free hbM 1
    have x2 : w3.cell? ⟨MB, 2, none⟩ = some (.slice ah_ m.homes.length ch_) := box_cell hbM 2
    have fx2 : w3.frozen? ⟨MB, 2, none⟩ = false := box_free hbM 2
    have x3 : w3.cell? ⟨MB, 3, none⟩ = some (.slice as_ m.seats.length cs_) := box_cell hbM 3
    have fx3 : w3.frozen? ⟨MB, 3, none⟩ = false := box_free hbM 3
    have x4 : w3.cell? ⟨MB, 4, none⟩ = some (.int .u64 m.ns) := box_cell hbM 4
    have fx4 : w3.frozen? ⟨MB, 4, none⟩ = false := box_free hbM 4
    have x5 : w3.cell? ⟨MB, 5, none⟩ = some (.int .u64 m.sweeps) := box_cell hbM 5
    have fx5 : w3.frozen? ⟨MB, 5, none⟩ = false := box_free hbM 5
    have hrq := Lib.hid (light_rq hB.out)
    have hl200 : Hid (l.length ≤ 200) := Lib.hid (by have := (light_parts hB.out).2.2.2.1; rw [List.length_map] at this; exact this)
    have hlt4 := Lib.hid (Nat.lt_of_lt_of_le hlt3.out hb3.size)
    have hzF := hz4.out.fillBox (C := [.slice ab_ nb_ cb_, .int .u64 m.nv, .slice ah_ m.homes.length ch_, .slice as_ m.seats.length cs_, .int .u64 m.ns, .int .u64 m.sweeps]) 0 rfl [.slice ab0 nb0 cb0, .int .u64 m0.nv, .slice ah0 m0.homes.length ch0, .slice as0 m0.seats.length cs0, .int .u64 m0.ns, .int .u64 m0.sweeps] rfl
    have hsF := hs0.out.sets MB [.slice ab0 nb0 cb0, .int .u64 m0.nv, .slice ah0 m0.homes.length ch0, .slice as0 m0.seats.length cs0, .int .u64 m0.ns, .int .u64 m0.sweeps] (fun k hk _ => hk)
    have hkF := KeptB.sets [.slice ab0 nb0 cb0, .int .u64 m0.nv, .slice ah0 m0.homes.length ch0, .slice as0 m0.seats.length cs0, .int .u64 m0.ns, .int .u64 m0.sweeps] 0 (KeptB.refl w3 MB)
    have hlF := Nat.lt_of_lt_of_eq hlt4.out hkF.size.symm
    have hH : HoldsS W MB m0 (w3.setCells MB 0 [.slice ab0 nb0 cb0, .int .u64 m0.nv, .slice ah0 m0.homes.length ch0, .slice as0 m0.seats.length cs0, .int .u64 m0.ns, .int .u64 m0.sweeps]) := ⟨_, hzF, hsF⟩
    simp only [World.setCells, Nat.zero_add] at hH hlF
    replace hH := Lib.hid hH
    replace hlF := Lib.hid hlF
    clear hbM hz4 hs0 hb3 hzF hsF hkF hB hin0 hll hlt3 hlt4
    go_upto_region 4 with fail
    generalize ((((((w3.setCell ⟨MB, 0, none⟩ (.slice ab0 nb0 cb0)).setCell ⟨MB, 1, none⟩ (.int .u64 m0.nv)).setCell ⟨MB, 2, none⟩ (.slice ah0 m0.homes.length ch0)).setCell ⟨MB, 3, none⟩ (.slice as0 m0.seats.length cs0)).setCell ⟨MB, 4, none⟩ (.int .u64 m0.ns)).setCell ⟨MB, 5, none⟩ (.int .u64 m0.sweeps)) = w4 at hH hlF ⊢
    have hN := Lib.hid hH.out.noted
    have hmm := @Go.RowKit.run_makeMap Tryz.prog
    clear x0 x1 x2 x3 x4 x5 fx0 fx1 fx2 fx3 fx4 fx5 hH hlF
    go_wp2_with fail
    generalize (w4.alloc (.map #[] 0)) = w5 at hN ⊢
    generalize w4.heap.size = B at hN ⊢
    clear hmm
    have h200 := hl200.out
    go_loopw [6] (fun v6 wr => ∃ (i n : Nat) (m1 : Ml) (F : Notes), v6 = .int .i64 i ∧ i ≤ l.length ∧ Hid (RightP m1) ∧ Hid (Noted F m1) ∧ Hid (n ≤ i * 256) ∧ Hid (HoldsN W MB B n F m1 wr)) (fun v6 _ => l.length + 1 - (intOf v6).toNat)
    case atStart => exact ⟨0, 0, m0, note0, rfl, Nat.zero_le _, hr0, Lib.hid (Noted.zero m0), Lib.hid (Nat.le_refl 0), hN⟩
    case round =>
      clear hr0 hN
      obtain ⟨i, n, m1, F, rfl, hi, hr1, hno, hn, hH⟩ := hrel
      have l8 := hr1.out.lb
      have hile : (i : Int) ≤ (l.length : Int) := by omega
      have hile2 : ¬ (l.length : Int) < (i : Int) := by omega
      go_upto_region 8 with fail
      go_wp2_with fail
      go_loopw [7] (fun v7 wr => ∃ (k n' : Nat) (F' : Notes), v7 = .int .i64 k ∧ k ≤ m1.boxes.length ∧ Hid (Noted F' m1) ∧ Hid (n' ≤ i * 256 + k * 32) ∧ Hid (HoldsN W MB B n' F' m1 wr)) (fun v7 _ => m1.boxes.length - (intOf v7).toNat)
      case atStart => exact ⟨0, n, F, rfl, Nat.zero_le _, hno, Lib.hid (by have := hn.out; omega), hH⟩
      case round =>
        clear hno hH
        obtain ⟨k, n', F', rfl, hk, hno, hn', hH⟩ := hrel
        obtain ⟨C1, hz, hs⟩ := hH.out
        obtain ⟨ab1, cb1, nb1, ah1, ch1, as1, cs1, rfl⟩ := hs.now.shape
        obtain rfl := hs.now.nb
        obtain ⟨hbM, -⟩ := hz.box (B := MB) (C := [.slice ab1 m1.boxes.length cb1, .int .u64 m1.nv, .slice ah1 m1.homes.length ch1, .slice as1 m1.seats.length cs1, .int .u64 m1.ns, .int .u64 m1.sweeps].toArray) (t := 27) 0 rfl
        have x0 : wr.cell? ⟨MB, 0, none⟩ = some (.slice ab1 m1.boxes.length cb1) := box_cell hbM 0
        by_cases hlk : k < m1.boxes.length
        · obtain ⟨xb, xo, z, e, hzb, hrow⟩ := hs.now.box_at hlk
          subst e
          obtain ⟨⟨d0, d1, d2, d3, d4⟩, -⟩ := hrow wr (Below.refl _ _)
          have hk0 : (0 : Int) ≤ (k : Int) := by omega
          have hk1 : (k : Int) < (m1.boxes.length : Int) := by omega
          have hmem : Hid (z.b ∈ m1.boxes) := Lib.hid (by rw [hzb]; exact List.getElem_mem hlk)
          have hBm := Lib.hid (hr1.out.boxes _ hmem.out)
          have hrl : z.rows.length ≤ 32 := by have h1 := hBm.out.len; have h2 : z.b.letters.length = z.rows.length := List.length_map ..; omega
          go_upto_region 12 with fail
          have hz2 := Lib.hid (hz.newBox [.string z.name, .int .u64 z.validity, .int .u64 z.next, .int .u64 z.high, .slice z.a z.rows.length z.c].toArray 48)
          have hba : Below wr.heap.size wr (wr.alloc (.cells [.string z.name, .int .u64 z.validity, .int .u64 z.next, .int .u64 z.high, .slice z.a z.rows.length z.c].toArray 48)) := (Below.refl _ _).alloc (Nat.le_refl _) _
          change Code.wp _ _ _ _ (wr.alloc (.cells [.string z.name, .int .u64 z.validity, .int .u64 z.next, .int .u64 z.high, .slice z.a z.rows.length z.c].toArray 48))
          have hs2 := Lib.hid (hs.below hba)
          have hl2 := Lib.hid ((hrow _ hba).2)
          clear x0 d0 d1 d2 d3 d4 hbM hz hs hrow hzb hH
          generalize (wr.alloc (.cells [.string z.name, .int .u64 z.validity, .int .u64 z.next, .int .u64 z.high, .slice z.a z.rows.length z.c].toArray 48)) = w7 at hz2 hs2 hl2 ⊢
          clear hba
          generalize wr.heap.size = BB at hz2 ⊢
          have hm2 := Lib.hid (hz2.out.map (B := B) (n := n') (F := F') 2 rfl).1
          go_wp2_with fail
          go_loopw [9] (fun v9 wr => ∃ (j n2 : Nat) (F2 : Notes), v9 = .int .i64 j ∧ j ≤ z.rows.length ∧ Hid (Noted F2 m1) ∧ Hid (n2 ≤ i * 256 + k * 32 + j) ∧ Hid (Zoo W wr [boxT BB [.string z.name, .int .u64 z.validity, .int .u64 z.next, .int .u64 z.high, .slice z.a z.rows.length z.c].toArray 48, boxT MB [.slice (some ⟨xb, xo, none⟩) m1.boxes.length cb1, .int .u64 m1.nv, .slice ah1 m1.homes.length ch1, .slice as1 m1.seats.length cs1, .int .u64 m1.ns, .int .u64 m1.sweeps].toArray 27, mapT B n2 F2]) ∧ Hid (MapStep B w7 wr)) (fun v9 _ => z.rows.length - (intOf v9).toNat)
          case atStart => exact ⟨0, n', F', rfl, Nat.zero_le _, hno, Lib.hid (by have := hn'.out; omega), hz2, Lib.hid (MapStep.refl _ _)⟩
          case round =>
            clear hno hz2
            obtain ⟨j, n2, F2, rfl, hj, hno, hn2, hz, hst⟩ := hrel
            obtain ⟨hbB, -⟩ := hz.out.box (B := BB) (C := [.string z.name, .int .u64 z.validity, .int .u64 z.next, .int .u64 z.high, .slice z.a z.rows.length z.c].toArray) (t := 48) 0 rfl
            have y4 : wr.cell? ⟨BB, 4, none⟩ = some (.slice z.a z.rows.length z.c) := box_cell hbB 4
            by_cases hlj : j < z.rows.length
            · have hlr : LtsIn wr z.v z.rows := hl2.out.mapStep hst.out hm2.out
              obtain ⟨x, hx⟩ : ∃ x, z.rows[j] = x := ⟨_, rfl⟩
              have hxm : x.x ∈ z.b.letters := by rw [← hx]; exact List.mem_map_of_mem (f := LtV.x) (List.getElem_mem hlj)
              obtain ⟨yb, yo, ycap, hv, hcY⟩ := hlr.cells_at hlj
              have hza : z.a = some ⟨yb, yo, none⟩ := by unfold BxV.v at hv; injection hv
              rw [hx] at hcY
              have hxP := hBm.out.lets _ hxm
              have hsz : NkSz ⟨z.name, z.validity, x.x.uid⟩ := ⟨by have := hBm.out.nmsz; exact this, by have h1 := hBm.out.v2; have h2 := hr1.out.nv; show z.validity < _; have h3 : z.b.validity = z.validity := rfl; omega, by have h1 := hxP.u2; have h2 := hBm.out.n2; show x.x.uid < _; omega⟩
              have hat := fun h (hF : F2 ⟨z.name, z.validity, x.x.uid⟩ = some h) => hno.out.at_ hmem.out hxm hF
              have hput := hno.out.put hr1.out hmem.out hxm
              have hh32 : x.x.hash.size = 32 := hxP.hs
              replace hput := Lib.hid hput
              replace hsz := Lib.hid hsz
              replace hat := Lib.hid hat
              replace hh32 := Lib.hid hh32
              have hcY' : Hid (∀ w', Below wr.heap.size wr w' → w'.cell? ⟨yb, yo + j * 5, none⟩ = some (.int .u64 x.x.uid) ∧ w'.cell? ⟨yb, yo + j * 5 + 3, none⟩ = some (.string x.x.hash)) := Lib.hid (fun w' h => ⟨(hcY w' h).1, (hcY w' h).2.2.2.1⟩)
              have hj0 : (0 : Int) ≤ (j : Int) := by omega
              have hj1 : (j : Int) < (z.rows.length : Int) := by omega
              clear hlr hx hxm hv hcY hxP hbB
              rw [hza] at y4
              have hbx : Hid (∀ w', Below wr.heap.size wr w' → w'.heap[BB]? = some (.cells [.string z.name, .int .u64 z.validity, .int .u64 z.next, .int .u64 z.high, .slice (some ⟨yb, yo, none⟩) z.rows.length z.c].toArray 48 (0, 0))) := Lib.hid (fun w' h => by
                have h2 := ((hz.out.below h).box (B := BB) (C := [.string z.name, .int .u64 z.validity, .int .u64 z.next, .int .u64 z.high, .slice z.a z.rows.length z.c].toArray) (t := 48) 0 rfl).1
                rw [hza] at h2
                exact h2)
              replace hza := Lib.hid hza
              go_upto_region 15 with fail
              clear y4
              go_cut [10] (fun v10 wx => ∃ KB : Nat, v10 = .pointer (some ⟨KB, 0, none⟩) ∧ Hid (Below wr.heap.size wr wx ∧ wx.heap[KB]? = some (.cells [.string z.name, .int .u64 z.validity, .int .u64 x.x.uid].toArray 52 (0, 0))))
              case first =>
                as_aux_lemma =>
                  have hbd : Below wr.heap.size wr wr.drew := (Below.refl _ _).drew
                  have hcl : Hid (∀ w', Below wr.heap.size wr w' → w'.cell? ⟨BB, 0, none⟩ = some (.string z.name) ∧ w'.cell? ⟨BB, 1, none⟩ = some (.int .u64 z.validity) ∧ w'.cell? ⟨BB, 4, none⟩ = some (.slice (some ⟨yb, yo, none⟩) z.rows.length z.c) ∧ w'.cell? ⟨yb, yo + j * 5, none⟩ = some (.int .u64 x.x.uid)) := Lib.hid (fun w' h => ⟨box_cell (hbx.out w' h) 0, box_cell (hbx.out w' h) 1, box_cell (hbx.out w' h) 4, (hcY'.out w' h).1⟩)
                  refine wp_region_hd (fun w' => w'.cell? ⟨BB, 0, none⟩ = some (.string z.name) ∧ w'.cell? ⟨BB, 1, none⟩ = some (.int .u64 z.validity) ∧ w'.cell? ⟨BB, 4, none⟩ = some (.slice (some ⟨yb, yo, none⟩) z.rows.length z.c) ∧ w'.cell? ⟨yb, yo + j * 5, none⟩ = some (.int .u64 x.x.uid)) 12 1 (by kernel_rfl) rfl ⟨by kernel_rfl, by kernel_rfl, by kernel_rfl, by decide⟩ (hcl.out _ hbd) (fun hok hS0 => ?_)
                  generalize wr.drew = Wd at *
                  refine Hd.take (i := 0) (v := ?tv604) hok rfl (by kernel_rfl) (fun _ _ _ h => h) (Or.inl ⟨by rfl, ?ty604⟩) (by assumption) ?tr604
                  case ty604 => (intro w hSw; (try dsimp only at hSw); go_simp; (try with_reducible rfl))
                  try simp only [List.getElem_toArray, List.getElem_cons_succ, List.getElem_cons_zero, Act.put, List.setIfInBounds_toArray, List.set_cons_zero, List.set_cons_succ]
                  refine Hd.take (i := 1) (v := ?tv605) hok rfl (by kernel_rfl) (fun _ _ _ h => h) (Or.inl ⟨by rfl, ?ty605⟩) (by assumption) ?tr605
                  case ty605 => (intro w hSw; (try dsimp only at hSw); go_simp; (try with_reducible rfl))
                  try simp only [List.getElem_toArray, List.getElem_cons_succ, List.getElem_cons_zero, Act.put, List.setIfInBounds_toArray, List.set_cons_zero, List.set_cons_succ]
                  refine Hd.take (i := 2) (v := ?tv606) hok rfl (by kernel_rfl) (fun _ _ _ h => h) (Or.inl ⟨by rfl, ?ty606⟩) (by assumption) ?tr606
                  case ty606 => (intro w hSw; (try dsimp only at hSw); go_simp; (try with_reducible rfl))
                  try simp only [List.getElem_toArray, List.getElem_cons_succ, List.getElem_cons_zero, Act.put, List.setIfInBounds_toArray, List.set_cons_zero, List.set_cons_succ]
                  refine Hd.take (i := 3) (v := ?tv607) hok rfl (by kernel_rfl) (fun _ _ _ h => h) (Or.inl ⟨by rfl, ?ty607⟩) (by assumption) ?tr607
                  case ty607 => (intro w hSw; (try dsimp only at hSw); go_simp; (try with_reducible rfl))
                  try simp only [List.getElem_toArray, List.getElem_cons_succ, List.getElem_cons_zero, Act.put, List.setIfInBounds_toArray, List.set_cons_zero, List.set_cons_succ]
                  refine Hd.take (i := 4) (v := ?tv608) hok rfl (by kernel_rfl) (fun _ _ _ h => h) (Or.inl ⟨by rfl, ?ty608⟩) (by assumption) ?tr608
                  case ty608 => (intro w hSw; (try dsimp only at hSw); go_simp; (try with_reducible rfl))
                  try simp only [List.getElem_toArray, List.getElem_cons_succ, List.getElem_cons_zero, Act.put, List.setIfInBounds_toArray, List.set_cons_zero, List.set_cons_succ]
                  refine Hd.take (i := 5) (v := ?tv609) hok rfl (by kernel_rfl) (fun _ _ _ h => h) (Or.inl ⟨by rfl, ?ty609⟩) (by assumption) ?tr609
                  case ty609 => (intro w hSw; (try dsimp only at hSw); go_simp; (try with_reducible rfl))
                  try simp only [List.getElem_toArray, List.getElem_cons_succ, List.getElem_cons_zero, Act.put, List.setIfInBounds_toArray, List.set_cons_zero, List.set_cons_succ]
                  refine Hd.take (i := 6) (v := ?tv610) hok rfl (by kernel_rfl) (fun _ _ _ h => h) (Or.inl ⟨by rfl, ?ty610⟩) (by assumption) ?tr610
                  case ty610 => (intro w hSw; (try dsimp only at hSw); go_simp; (try with_reducible rfl))
                  try simp only [List.getElem_toArray, List.getElem_cons_succ, List.getElem_cons_zero, Act.put, List.setIfInBounds_toArray, List.set_cons_zero, List.set_cons_succ]
                  refine Hd.take (i := 7) (v := ?tv611) hok rfl (by kernel_rfl) (fun _ _ _ h => h) (Or.inl ⟨by rfl, ?ty611⟩) (by assumption) ?tr611
                  case ty611 => (intro w hSw; (try dsimp only at hSw); go_simp; (try with_reducible rfl))
                  try simp only [List.getElem_toArray, List.getElem_cons_succ, List.getElem_cons_zero, Act.put, List.setIfInBounds_toArray, List.set_cons_zero, List.set_cons_succ]
                  refine Hd.take (i := 8) (v := ?tv612) hok rfl (by kernel_rfl) (fun _ _ _ h => h) (Or.inl ⟨by rfl, ?ty612⟩) (by assumption) ?tr612
                  case ty612 => (intro w hSw; (try dsimp only at hSw); go_simp; (try with_reducible rfl))
                  try simp only [List.getElem_toArray, List.getElem_cons_succ, List.getElem_cons_zero, Act.put, List.setIfInBounds_toArray, List.set_cons_zero, List.set_cons_succ]
                  refine Hd.take (i := 9) (v := ?tv613) hok rfl (by kernel_rfl) (fun _ _ _ h => h) (Or.inl ⟨by rfl, ?ty613⟩) (by assumption) ?tr613
                  case ty613 => (intro w hSw; (try dsimp only at hSw); go_simp; (try with_reducible rfl))
                  try simp only [List.getElem_toArray, List.getElem_cons_succ, List.getElem_cons_zero, Act.put, List.setIfInBounds_toArray, List.set_cons_zero, List.set_cons_succ]
                  refine Hd.take (i := 10) (v := ?tv614) hok rfl (by kernel_rfl) (fun _ _ _ h => h) (Or.inl ⟨by rfl, ?ty614⟩) (by assumption) ?tr614
                  case ty614 => (intro w hSw; (try dsimp only at hSw); go_simp; (try with_reducible rfl))
                  try simp only [List.getElem_toArray, List.getElem_cons_succ, List.getElem_cons_zero, Act.put, List.setIfInBounds_toArray, List.set_cons_zero, List.set_cons_succ]
                  refine Hd.one (i := 11) rfl (by kernel_rfl) (fun K hK => ?_)
                  go_simp
                  have hzn := (Zoo.nil Wd).newBox [.string ⟨#[]⟩, .int .u64 0, .int .u64 0].toArray 52
                  have hb1 := hbd.trans (((Below.refl Wd.heap.size Wd).alloc (Nat.le_refl _) (.cells [.string ⟨#[]⟩, .int .u64 0, .int .u64 0].toArray 52)).mono hbd.size)
                  have hle := hbd.size
                  generalize (Wd.alloc (.cells [.string ⟨#[]⟩, .int .u64 0, .int .u64 0].toArray 52)) = We at hzn hb1 ⊢
                  generalize Wd.heap.size = KB at hzn hle ⊢
                  have hSn := hcl.out _ hb1
                  refine hK _ _ hSn ?_
                  clear hK K
                  try simp only [List.getElem_toArray, List.getElem_cons_succ, List.getElem_cons_zero, Act.put, List.setIfInBounds_toArray, List.set_cons_zero, List.set_cons_succ]
                  refine Hd.done (by kernel_rfl) ?_
                  simp only [List.drop_succ_cons, List.drop_zero]
                  have hs1 := hzn.boxSome (B := KB) (C := [.string ⟨#[]⟩, .int .u64 0, .int .u64 0]) (t := 52) 0 rfl
                  refine wpList_store_cells rfl 52 (.tmp 10) (.tmp 68) rfl KB 0 [.string z.name, .int .u64 z.validity, .int .u64 x.x.uid] rfl rfl Tryz.sizeOf52 (one_nk _ _ _) hs1.1 hs1.2 ?_
                  have hzF := (hzn.fillBox (B := KB) (C := [.string ⟨#[]⟩, .int .u64 0, .int .u64 0]) (t := 52) 0 rfl [.string z.name, .int .u64 z.validity, .int .u64 x.x.uid] rfl).box 0 rfl
                  have hbF := bel_sets hb1 KB [.string z.name, .int .u64 z.validity, .int .u64 x.x.uid] hle
                  clear hs1 hzn hb1
                  generalize We.setCells KB 0 [.string z.name, .int .u64 z.validity, .int .u64 x.x.uid] = Wf at hzF hbF ⊢
                  have hrel : Hid (Below wr.heap.size wr Wf ∧ Wf.heap[KB]? = some (.cells [.string z.name, .int .u64 z.validity, .int .u64 x.x.uid].toArray 52 (0, 0))) := Lib.hid ⟨hbF, hzF.1⟩
                  clear hzF hbF hok hS0 hSn hcl
                  go_wp2_with fail
                  go_meet
                  case rel => exact ⟨KB, rfl, hrel⟩
              case rest =>
              as_aux_lemma =>
                obtain ⟨KB, rfl, hKB⟩ := hcut
                obtain ⟨hbk, hkb⟩ := hKB.out
                have hzc := Lib.hid (hz.out.below hbk)
                have k0 : wc.cell? ⟨KB, 0, none⟩ = some (.string z.name) := box_cell hkb 0
                have k1 : wc.cell? ⟨KB, 1, none⟩ = some (.int .u64 z.validity) := box_cell hkb 1
                have k2 : wc.cell? ⟨KB, 2, none⟩ = some (.int .u64 x.x.uid) := box_cell hkb 2
                have y4 : wc.cell? ⟨BB, 4, none⟩ = some (.slice (some ⟨yb, yo, none⟩) z.rows.length z.c) := box_cell (hbx.out wc hbk) 4
                have y3 := (hcY'.out wc hbk).2
                have hlook := (hzc.out.map (B := B) (n := n2) (F := F2) 2 rfl).1.look2 _ hsz.out
                unfold nkV at hlook
                (try dsimp only at hlook)
                have hst2 := Lib.hid (hst.out.trans (.of_below hbk))
                have hcl : Hid (∀ w', Below wc.heap.size wc w' → w'.cell? ⟨KB, 0, none⟩ = some (.string z.name) ∧ w'.cell? ⟨KB, 1, none⟩ = some (.int .u64 z.validity) ∧ w'.cell? ⟨KB, 2, none⟩ = some (.int .u64 x.x.uid) ∧ w'.cell? ⟨BB, 4, none⟩ = some (.slice (some ⟨yb, yo, none⟩) z.rows.length z.c) ∧ w'.cell? ⟨yb, yo + j * 5 + 3, none⟩ = some (.string x.x.hash)) := Lib.hid (fun w' h => ⟨box_cell (bel_heap h hkb) 0, box_cell (bel_heap h hkb) 1, box_cell (bel_heap h hkb) 2, box_cell (hbx.out w' (hbk.trans (h.mono hbk.size))) 4, (hcY'.out w' (hbk.trans (h.mono hbk.size))).2⟩)
                have hbd : Below wc.heap.size wc wc.drew := (Below.refl _ _).drew
                obtain ⟨Wu, hput2, hzu, hsu, hou, -⟩ := hzc.out.drew.putMap (B := B) (n := n2) (F := F2) 2 rfl (by have := hn2.out; unfold maxLen; omega) _ hsz.out x.x.hash (by rw [hh32.out]; decide)
                unfold nkV at hput2
                (try dsimp only at hput2)
                have hst3 := Lib.hid (hst2.out.trans ⟨Nat.le_of_eq hsu.symm, fun k _ hk => hou k hk⟩)
                replace hzu : Hid (Zoo W Wu [boxT BB [.string z.name, .int .u64 z.validity, .int .u64 z.next, .int .u64 z.high, .slice z.a z.rows.length z.c].toArray 48, boxT MB [.slice (some ⟨xb, xo, none⟩) m1.boxes.length cb1, .int .u64 m1.nv, .slice ah1 m1.homes.length ch1, .slice as1 m1.seats.length cs1, .int .u64 m1.ns, .int .u64 m1.sweeps].toArray 27, mapT B (n2 + 1) (notePut F2 ⟨z.name, z.validity, x.x.uid⟩ x.x.hash)]) := Lib.hid hzu
                replace hput2 := Lib.hid hput2
                have hn3 : Hid (n2 + 1 ≤ i * 256 + k * 32 + (j + 1)) := Lib.hid (by have := hn2.out; omega)
                clear hbk hkb hsu hou hKB hbx hcY' hz hst hst2 hzc
                have hput3 : Hid (Noted (notePut F2 ⟨z.name, z.validity, x.x.uid⟩ x.x.hash) m1) := hput
                have hsame : Hid (∀ hh, F2 ⟨z.name, z.validity, x.x.uid⟩ = some hh → hh = x.x.hash) := hat
                clear hput hat hsz hh32
                cases hF : F2 ⟨z.name, z.validity, x.x.uid⟩ with
                | none =>
                  rw [hF] at hlook
                  dsimp only [Option.getD, Option.isSome] at hlook
                  clear hF hsame
                  go_upto_region 19 with fail
                  clear hlook k0 k1 k2 y4 y3
                  as_aux_lemma =>
                    refine wp_region_hd (fun w' => w'.cell? ⟨KB, 0, none⟩ = some (.string z.name) ∧ w'.cell? ⟨KB, 1, none⟩ = some (.int .u64 z.validity) ∧ w'.cell? ⟨KB, 2, none⟩ = some (.int .u64 x.x.uid) ∧ w'.cell? ⟨BB, 4, none⟩ = some (.slice (some ⟨yb, yo, none⟩) z.rows.length z.c) ∧ w'.cell? ⟨yb, yo + j * 5 + 3, none⟩ = some (.string x.x.hash)) 8 1 (by kernel_rfl) rfl ⟨by kernel_rfl, by kernel_rfl, by kernel_rfl, by decide⟩ (hcl.out _ hbd) (fun hok hS0 => ?_)
                    have hput4 := hput2.out
                    generalize wc.drew = Wd at *
                    refine Hd.take (i := 0) (v := ?tv615) hok rfl (by kernel_rfl) (fun _ _ _ h => h) (Or.inl ⟨by rfl, ?ty615⟩) (by assumption) ?tr615
                    case ty615 => (intro w hSw; (try dsimp only at hSw); go_simp; (try with_reducible rfl))
                    try simp only [List.getElem_toArray, List.getElem_cons_succ, List.getElem_cons_zero, Act.put, List.setIfInBounds_toArray, List.set_cons_zero, List.set_cons_succ]
                    refine Hd.take (i := 1) (v := ?tv616) hok rfl (by kernel_rfl) (fun _ _ _ h => h) (Or.inl ⟨by rfl, ?ty616⟩) (by assumption) ?tr616
                    case ty616 => (intro w hSw; (try dsimp only at hSw); go_simp; (try with_reducible rfl))
                    try simp only [List.getElem_toArray, List.getElem_cons_succ, List.getElem_cons_zero, Act.put, List.setIfInBounds_toArray, List.set_cons_zero, List.set_cons_succ]
                    refine Hd.take (i := 2) (v := ?tv617) hok rfl (by kernel_rfl) (fun _ _ _ h => h) (Or.inl ⟨by rfl, ?ty617⟩) (by assumption) ?tr617
                    case ty617 => (intro w hSw; (try dsimp only at hSw); go_simp; (try with_reducible rfl))
                    try simp only [List.getElem_toArray, List.getElem_cons_succ, List.getElem_cons_zero, Act.put, List.setIfInBounds_toArray, List.set_cons_zero, List.set_cons_succ]
                    refine Hd.take (i := 3) (v := ?tv618) hok rfl (by kernel_rfl) (fun _ _ _ h => h) (Or.inl ⟨by rfl, ?ty618⟩) (by assumption) ?tr618
                    case ty618 => (intro w hSw; (try dsimp only at hSw); go_simp; (try with_reducible rfl))
                    try simp only [List.getElem_toArray, List.getElem_cons_succ, List.getElem_cons_zero, Act.put, List.setIfInBounds_toArray, List.set_cons_zero, List.set_cons_succ]
                    refine Hd.take (i := 4) (v := ?tv619) hok rfl (by kernel_rfl) (fun _ _ _ h => h) (Or.inl ⟨by rfl, ?ty619⟩) (by assumption) ?tr619
                    case ty619 => (intro w hSw; (try dsimp only at hSw); go_simp; (try with_reducible rfl))
                    try simp only [List.getElem_toArray, List.getElem_cons_succ, List.getElem_cons_zero, Act.put, List.setIfInBounds_toArray, List.set_cons_zero, List.set_cons_succ]
                    refine Hd.take (i := 5) (v := ?tv620) hok rfl (by kernel_rfl) (fun _ _ _ h => h) (Or.inl ⟨by rfl, ?ty620⟩) (by assumption) ?tr620
                    case ty620 => (intro w hSw; (try dsimp only at hSw); go_simp; (try with_reducible rfl))
                    try simp only [List.getElem_toArray, List.getElem_cons_succ, List.getElem_cons_zero, Act.put, List.setIfInBounds_toArray, List.set_cons_zero, List.set_cons_succ]
                    refine Hd.take (i := 6) (v := ?tv621) hok rfl (by kernel_rfl) (fun _ _ _ h => h) (Or.inl ⟨by rfl, ?ty621⟩) (by assumption) ?tr621
                    case ty621 => (intro w hSw; (try dsimp only at hSw); go_simp; (try with_reducible rfl))
                    try simp only [List.getElem_toArray, List.getElem_cons_succ, List.getElem_cons_zero, Act.put, List.setIfInBounds_toArray, List.set_cons_zero, List.set_cons_succ]
                    refine Hd.take (i := 7) (v := ?tv622) hok rfl (by kernel_rfl) (fun _ _ _ h => h) (Or.inl ⟨by rfl, ?ty622⟩) (by assumption) ?tr622
                    case ty622 => (intro w hSw; (try dsimp only at hSw); go_simp; (try with_reducible rfl))
                    try simp only [List.getElem_toArray, List.getElem_cons_succ, List.getElem_cons_zero, Act.put, List.setIfInBounds_toArray, List.set_cons_zero, List.set_cons_succ]
                    refine Hd.done (by kernel_rfl) ?_
                    simp only [List.drop_succ_cons, List.drop_zero]
                    clear hok hS0 hcl hput2
                    go_wp2_with fail
                    go_roundw
                    case rel => exact ⟨j + 1, n2 + 1, _, by go_num, by omega, hput3, hn3, hzu, hst3⟩
                    case measure => simp [intOf] <;> omega
                | some hh =>
                  obtain rfl := hsame.out _ hF
                  rw [hF] at hlook
                  dsimp only [Option.getD, Option.isSome] at hlook
                  have t1 : (x.x.hash.toList != x.x.hash.toList) = false := by simp
                  have t2 : (x.x.hash.toList == x.x.hash.toList) = true := by simp
                  clear hF hsame
                  go_upto_region 19 with fail
                  clear hlook k0 k1 k2 y4 y3 t1 t2
                  as_aux_lemma =>
                    refine wp_region_hd (fun w' => w'.cell? ⟨KB, 0, none⟩ = some (.string z.name) ∧ w'.cell? ⟨KB, 1, none⟩ = some (.int .u64 z.validity) ∧ w'.cell? ⟨KB, 2, none⟩ = some (.int .u64 x.x.uid) ∧ w'.cell? ⟨BB, 4, none⟩ = some (.slice (some ⟨yb, yo, none⟩) z.rows.length z.c) ∧ w'.cell? ⟨yb, yo + j * 5 + 3, none⟩ = some (.string x.x.hash)) 8 1 (by kernel_rfl) rfl ⟨by kernel_rfl, by kernel_rfl, by kernel_rfl, by decide⟩ (hcl.out _ hbd) (fun hok hS0 => ?_)
                    have hput4 := hput2.out
                    generalize wc.drew = Wd at *
                    refine Hd.take (i := 0) (v := ?tv623) hok rfl (by kernel_rfl) (fun _ _ _ h => h) (Or.inl ⟨by rfl, ?ty623⟩) (by assumption) ?tr623
                    case ty623 => (intro w hSw; (try dsimp only at hSw); go_simp; (try with_reducible rfl))
                    try simp only [List.getElem_toArray, List.getElem_cons_succ, List.getElem_cons_zero, Act.put, List.setIfInBounds_toArray, List.set_cons_zero, List.set_cons_succ]
                    refine Hd.take (i := 1) (v := ?tv624) hok rfl (by kernel_rfl) (fun _ _ _ h => h) (Or.inl ⟨by rfl, ?ty624⟩) (by assumption) ?tr624
                    case ty624 => (intro w hSw; (try dsimp only at hSw); go_simp; (try with_reducible rfl))
                    try simp only [List.getElem_toArray, List.getElem_cons_succ, List.getElem_cons_zero, Act.put, List.setIfInBounds_toArray, List.set_cons_zero, List.set_cons_succ]
                    refine Hd.take (i := 2) (v := ?tv625) hok rfl (by kernel_rfl) (fun _ _ _ h => h) (Or.inl ⟨by rfl, ?ty625⟩) (by assumption) ?tr625
                    case ty625 => (intro w hSw; (try dsimp only at hSw); go_simp; (try with_reducible rfl))
                    try simp only [List.getElem_toArray, List.getElem_cons_succ, List.getElem_cons_zero, Act.put, List.setIfInBounds_toArray, List.set_cons_zero, List.set_cons_succ]
                    refine Hd.take (i := 3) (v := ?tv626) hok rfl (by kernel_rfl) (fun _ _ _ h => h) (Or.inl ⟨by rfl, ?ty626⟩) (by assumption) ?tr626
                    case ty626 => (intro w hSw; (try dsimp only at hSw); go_simp; (try with_reducible rfl))
                    try simp only [List.getElem_toArray, List.getElem_cons_succ, List.getElem_cons_zero, Act.put, List.setIfInBounds_toArray, List.set_cons_zero, List.set_cons_succ]
                    refine Hd.take (i := 4) (v := ?tv627) hok rfl (by kernel_rfl) (fun _ _ _ h => h) (Or.inl ⟨by rfl, ?ty627⟩) (by assumption) ?tr627
                    case ty627 => (intro w hSw; (try dsimp only at hSw); go_simp; (try with_reducible rfl))
                    try simp only [List.getElem_toArray, List.getElem_cons_succ, List.getElem_cons_zero, Act.put, List.setIfInBounds_toArray, List.set_cons_zero, List.set_cons_succ]
                    refine Hd.take (i := 5) (v := ?tv628) hok rfl (by kernel_rfl) (fun _ _ _ h => h) (Or.inl ⟨by rfl, ?ty628⟩) (by assumption) ?tr628
                    case ty628 => (intro w hSw; (try dsimp only at hSw); go_simp; (try with_reducible rfl))
                    try simp only [List.getElem_toArray, List.getElem_cons_succ, List.getElem_cons_zero, Act.put, List.setIfInBounds_toArray, List.set_cons_zero, List.set_cons_succ]
                    refine Hd.take (i := 6) (v := ?tv629) hok rfl (by kernel_rfl) (fun _ _ _ h => h) (Or.inl ⟨by rfl, ?ty629⟩) (by assumption) ?tr629
                    case ty629 => (intro w hSw; (try dsimp only at hSw); go_simp; (try with_reducible rfl))
                    try simp only [List.getElem_toArray, List.getElem_cons_succ, List.getElem_cons_zero, Act.put, List.setIfInBounds_toArray, List.set_cons_zero, List.set_cons_succ]
                    refine Hd.take (i := 7) (v := ?tv630) hok rfl (by kernel_rfl) (fun _ _ _ h => h) (Or.inl ⟨by rfl, ?ty630⟩) (by assumption) ?tr630
                    case ty630 => (intro w hSw; (try dsimp only at hSw); go_simp; (try with_reducible rfl))
                    try simp only [List.getElem_toArray, List.getElem_cons_succ, List.getElem_cons_zero, Act.put, List.setIfInBounds_toArray, List.set_cons_zero, List.set_cons_succ]
                    refine Hd.done (by kernel_rfl) ?_
                    simp only [List.drop_succ_cons, List.drop_zero]
                    clear hok hS0 hcl hput2
                    go_wp2_with fail
                    go_roundw
                    case rel => exact ⟨j + 1, n2 + 1, _, by go_num, by omega, hput3, hn3, hzu, hst3⟩
                    case measure => simp [intOf] <;> omega
            · obtain rfl : j = z.rows.length := by omega
              have hHx : Hid (HoldsN W MB B n2 F2 m1 wr) := Lib.hid ⟨_, hz.out.sub (List.sublist_cons_self _ _), hs2.out.mapStep hst.out (fun k hk => hk B (.tail _ (.head _)))⟩
              have hn4 : Hid (n2 ≤ i * 256 + (k + 1) * 32) := Lib.hid (by have := hn2.out; omega)
              clear hz hst hbB hs2 hl2 hm2 hmem hBm
              go_wp2_with fail
              go_roundw
              case rel => exact ⟨k + 1, n2, F2, by go_num, by omega, hno, hn4, hHx⟩
              case measure => simp [intOf] <;> omega
        · obtain rfl : k = m1.boxes.length := by omega
          clear hbM
          have hn5 : Hid (n' ≤ (i + 1) * 256) := Lib.hid (by have := hn'.out; omega)
          by_cases hlt : i < l.length
          · have hne : ((i : Int) == (l.length : Int)) = false := by rw [beq_eq_false_iff_ne]; omega
            obtain ⟨b, bo, cap, hv, hbW, hc⟩ := hl0.out.cells_at3 hlt
            injection hv with hv1 hv2 hv3
            subst hv1 hv3
            have hqo := hrq.out _ (List.mem_map_of_mem (f := (·.1)) (List.getElem_mem hlt))
            have hqi : ∀ w', Below W.heap.size W w' → RqIn w' l[i].1 l[i].2 := fun w' hb => (hl0.out.below hb).2 _ (List.getElem_mem hlt)
            obtain ⟨q, hq⟩ : ∃ q, l[i].1 = q := ⟨_, rfl⟩
            obtain ⟨y, hy⟩ : ∃ y, l[i].2 = y := ⟨_, rfl⟩
            rw [hq, hy] at hc hqi
            have hqo : RqOk q := by rw [← hq]; exact hqo
            have hold := fun (a t : Bx) (ha : a ∈ m1.boxes) (ht : findM (applyM m1 q).1 a.name = some t) => evo_old q hr1.out ha ht
            have hev := apply_evo m1 q
            have hno2 := hno.out.step q
            have happ := fun h1 h2 => append_good (q := q) hr1.out h1 h2
            have hr2 := apply_right q hr1.out
            obtain ⟨⟨m2, o2⟩, hap⟩ : ∃ r, applyM m1 q = r := ⟨_, rfl⟩
            rw [hap] at hold hev hno2 happ hr2
            dsimp only at hold hev hno2 happ hr2
            have hnv := hev.nv
            have hns := hev.ns
            have tn1 : ¬ (m2.nv : Int) < (m1.nv : Int) := by omega
            have tn2 : decide ((m2.nv : Int) < (m1.nv : Int)) = false := decide_eq_false tn1
            have tn3 : ¬ (m2.ns : Int) < (m1.ns : Int) := by omega
            have tn4 : decide ((m2.ns : Int) < (m1.ns : Int)) = false := decide_eq_false tn3
            replace hap := Lib.hid hap
            replace hold := Lib.hid hold
            replace hno2 := Lib.hid hno2
            replace happ := Lib.hid happ
            replace hr2 := Lib.hid hr2
            replace hqo := Lib.hid hqo
            replace hqi := Lib.hid hqi
            replace hc := Lib.hid hc
            have hi0 : (0 : Int) ≤ (i : Int) := by omega
            have hi1 : (i : Int) < (l.length : Int) := by omega
            have hMlt : MB < wr.heap.size := (Array.getElem?_eq_some_iff.1 (hz.box (B := MB) (C := [.slice ab1 m1.boxes.length cb1, .int .u64 m1.nv, .slice ah1 m1.homes.length ch1, .slice as1 m1.seats.length cs1, .int .u64 m1.ns, .int .u64 m1.sweeps].toArray) (t := 27) 0 rfl).1).1
            have hBlt : B < wr.heap.size := (hz.map (B := B) (n := n') (F := F') 1 rfl).1.lt
            have hzd := hz.drew
            have sC0 := (hs.below ((Below.refl _ _).drew))
            have hL0 : ∀ b ∈ [MB, B], b < wr.drew.heap.size := fun b hb => by
              rcases List.mem_cons.1 hb with rfl | hb
              · exact hMlt
              · rw [List.mem_singleton.1 hb]; exact hBlt
            have hSn := Lib.hid (And.intro (hzd.box (B := MB) (C := [.slice ab1 m1.boxes.length cb1, .int .u64 m1.nv, .slice ah1 m1.homes.length ch1, .slice as1 m1.seats.length cs1, .int .u64 m1.ns, .int .u64 m1.sweeps].toArray) (t := 27) 0 rfl).1 hzd.bel)
            clear hz hs hq hy hbW hH hev hnv hns hMlt hBlt hn hn'
            go_upto_region 22 with fail
            clear hne x0
            go_cut [13, 14] (fun v13 v14 wx => ∃ TB OB, v13 = .pointer (some ⟨TB, 0, none⟩) ∧ v14 = .pointer (some ⟨OB, 0, none⟩) ∧ Hid (ApN W MB TB OB B n' F' m1 m2 o2 wx))
            case first =>
              as_aux_lemma =>
                refine wp_region_hd (fun w' => Hid (w'.heap[MB]? = some (.cells [.slice ab1 m1.boxes.length cb1, .int .u64 m1.nv, .slice ah1 m1.homes.length ch1, .slice as1 m1.seats.length cs1, .int .u64 m1.ns, .int .u64 m1.sweeps].toArray 27 (0, 0)) ∧ Below W.heap.size W w')) 12 1 (by kernel_rfl) rfl ⟨by kernel_rfl, by kernel_rfl, by kernel_rfl, by decide⟩ hSn (fun hok hS0 => ?_)
                clear hS0
                generalize wr.drew = Wd at *
                refine Hd.take (i := 0) (v := .agg [.slice ab1 m1.boxes.length cb1, .int .u64 m1.nv, .slice ah1 m1.homes.length ch1, .slice as1 m1.seats.length cs1, .int .u64 m1.ns, .int .u64 m1.sweeps].toArray) hok rfl (by kernel_rfl) (fun _ _ _ h => h) (yields_load_cells 27 (.tmp 2) rfl MB 0 [.slice ab1 m1.boxes.length cb1, .int .u64 m1.nv, .slice ah1 m1.homes.length ch1, .slice as1 m1.seats.length cs1, .int .u64 m1.ns, .int .u64 m1.sweeps] (by rfl) Tryz.isAgg27 Tryz.sizeOf27 rfl (fun W hS j v hj => by rw [Nat.zero_add, box_cell hS.out.1 j, List.getElem?_toArray]; exact hj)) (by assumption) ?_
                try simp only [List.getElem_toArray, List.getElem_cons_succ, List.getElem_cons_zero, Act.put, List.setIfInBounds_toArray, List.set_cons_zero, List.set_cons_succ]
                refine Hd.take (i := 1) (v := ?tv631) hok rfl (by kernel_rfl) (fun _ _ _ h => h) (Or.inl ⟨by rfl, ?ty631⟩) (by assumption) ?tr631
                case ty631 => (intro w hSw; (try dsimp only at hSw); go_simp; (try with_reducible rfl))
                try simp only [List.getElem_toArray, List.getElem_cons_succ, List.getElem_cons_zero, Act.put, List.setIfInBounds_toArray, List.set_cons_zero, List.set_cons_succ]
                refine Hd.take (i := 2) (v := ?tv632) hok rfl (by kernel_rfl) (fun _ _ _ h => h) (Or.inl ⟨by rfl, ?ty632⟩) (by assumption) ?tr632
                case ty632 => (intro w hSw; (try dsimp only at hSw); go_simp; (try with_reducible rfl))
                try simp only [List.getElem_toArray, List.getElem_cons_succ, List.getElem_cons_zero, Act.put, List.setIfInBounds_toArray, List.set_cons_zero, List.set_cons_succ]
                refine Hd.take (i := 3) (v := ?tv633) hok rfl (by kernel_rfl) (fun _ _ _ h => h) (Or.inl ⟨by rfl, ?ty633⟩) (by assumption) ?tr633
                case ty633 => (intro w hSw; (try dsimp only at hSw); go_simp; (try with_reducible rfl))
                try simp only [List.getElem_toArray, List.getElem_cons_succ, List.getElem_cons_zero, Act.put, List.setIfInBounds_toArray, List.set_cons_zero, List.set_cons_succ]
                refine Hd.take (i := 4) (v := .agg (rqCells q y).toArray) hok rfl (by kernel_rfl) (fun _ _ _ h => h) (yields_load_cells 41 (.tmp 102) rfl b (bo + i * 17) (rqCells q y) (by rfl) Tryz.isAgg41 Tryz.sizeOf41 rfl (fun W hS j v hj => hc.out W hS.out.2 j v hj)) (by assumption) ?_
                try simp only [List.getElem_toArray, List.getElem_cons_succ, List.getElem_cons_zero, Act.put, List.setIfInBounds_toArray, List.set_cons_zero, List.set_cons_succ]
                refine Hd.three (i := 5) (k := 9) (m := 10) rfl rfl rfl (by kernel_rfl) (fun K hK => ?_) (fun K hK => ?_) (fun K hK => ?_)
                · go_simp
                  refine (apply_any _ sC0.now hr1.out.ap (hqi.out Wd hzd.bel) hqo.out).mono ?_
                  rw [hap.out]
                  rintro e w1r ⟨vD, oD, rfl, hvD, hoD, hb_w1r⟩
                  dsimp only
                  obtain ⟨ab2, cb2, nb2, ah2, ch2, as2, cs2, rfl⟩ := hvD.out.now.out_
                  obtain ⟨aU2, cU2, aM2, cM2, rfl⟩ := hoD.out.now.out_
                  have hz_w1r := hzd.below hb_w1r.out
                  have sC_w1r := sC0.below hb_w1r.out
                  have sD_w1r := hvD.out.okL hL0
                  have sO_w1r := hoD.out.okL hL0
                  have hL_w1r := ltL_below hL0 hb_w1r.out.size
                  clear hvD hoD
                  have hSn := Lib.hid (And.intro (hz_w1r.box (B := MB) (C := [.slice ab1 m1.boxes.length cb1, .int .u64 m1.nv, .slice ah1 m1.homes.length ch1, .slice as1 m1.seats.length cs1, .int .u64 m1.ns, .int .u64 m1.sweeps].toArray) (t := 27) 0 rfl).1 hz_w1r.bel)
                  refine hK _ _ hSn ?_
                  clear hK K
                  try simp only [List.getElem_toArray, List.getElem_cons_succ, List.getElem_cons_zero, Act.put, List.setIfInBounds_toArray, List.set_cons_zero, List.set_cons_succ]
                  refine Hd.take (i := 6) (v := ?tv634) hok rfl (by kernel_rfl) (fun _ _ _ h => h) (Or.inl ⟨by rfl, ?ty634⟩) (by assumption) ?tr634
                  case ty634 => (intro w hSw; (try dsimp only at hSw); go_simp; (try with_reducible rfl))
                  try simp only [List.getElem_toArray, List.getElem_cons_succ, List.getElem_cons_zero, Act.put, List.setIfInBounds_toArray, List.set_cons_zero, List.set_cons_succ]
                  refine Hd.take (i := 7) (v := ?tv635) hok rfl (by kernel_rfl) (fun _ _ _ h => h) (Or.inl ⟨by rfl, ?ty635⟩) (by assumption) ?tr635
                  case ty635 => (intro w hSw; (try dsimp only at hSw); go_simp; (try with_reducible rfl))
                  try simp only [List.getElem_toArray, List.getElem_cons_succ, List.getElem_cons_zero, Act.put, List.setIfInBounds_toArray, List.set_cons_zero, List.set_cons_succ]
                  refine Hd.take (i := 8) (v := ?tv636) hok rfl (by kernel_rfl) (fun _ _ _ h => h) (Or.inl ⟨by rfl, ?ty636⟩) (by assumption) ?tr636
                  case ty636 => (intro w hSw; (try dsimp only at hSw); go_simp; (try with_reducible rfl))
                  try simp only [List.getElem_toArray, List.getElem_cons_succ, List.getElem_cons_zero, Act.put, List.setIfInBounds_toArray, List.set_cons_zero, List.set_cons_succ]
                  refine Hd.two (i := 9) (k := 10) rfl rfl (by kernel_rfl) (fun K hK => ?_) (fun K hK => ?_)
                  · go_simp
                    have hz_w2r := hz_w1r.newBox [.slice none 0 0, .int .u64 0, .slice none 0 0, .slice none 0 0, .int .u64 0, .int .u64 0].toArray 27
                    have sC_w2r := sC_w1r.allocL (.cells [.slice none 0 0, .int .u64 0, .slice none 0 0, .slice none 0 0, .int .u64 0, .int .u64 0].toArray 27)
                    have hL_w2r := ltL_alloc hL_w1r (.cells [.slice none 0 0, .int .u64 0, .slice none 0 0, .slice none 0 0, .int .u64 0, .int .u64 0].toArray 27)
                    have sD_w2r := sD_w1r.allocL (.cells [.slice none 0 0, .int .u64 0, .slice none 0 0, .slice none 0 0, .int .u64 0, .int .u64 0].toArray 27)
                    have sO_w2r := sO_w1r.allocL (.cells [.slice none 0 0, .int .u64 0, .slice none 0 0, .slice none 0 0, .int .u64 0, .int .u64 0].toArray 27)
                    generalize (w1r.alloc (.cells [.slice none 0 0, .int .u64 0, .slice none 0 0, .slice none 0 0, .int .u64 0, .int .u64 0].toArray 27)) = w2r at hz_w2r sC_w2r hL_w2r sD_w2r sO_w2r ⊢
                    have hSn := Lib.hid (And.intro (hz_w2r.box (B := MB) (C := [.slice ab1 m1.boxes.length cb1, .int .u64 m1.nv, .slice ah1 m1.homes.length ch1, .slice as1 m1.seats.length cs1, .int .u64 m1.ns, .int .u64 m1.sweeps].toArray) (t := 27) 1 rfl).1 hz_w2r.bel)
                    refine hK _ _ hSn ?_
                    clear hK K
                    try simp only [List.getElem_toArray, List.getElem_cons_succ, List.getElem_cons_zero, Act.put, List.setIfInBounds_toArray, List.set_cons_zero, List.set_cons_succ]
                    refine Hd.one (i := 10) rfl (by kernel_rfl) (fun K hK => ?_)
                    go_simp
                    have hz_w3r := hz_w2r.newBox [.int .i64 0, .int .u64 0, .int .u64 0, .slice none 0 0, .slice none 0 0].toArray 35
                    have sC_w3r := sC_w2r.allocL (.cells [.int .i64 0, .int .u64 0, .int .u64 0, .slice none 0 0, .slice none 0 0].toArray 35)
                    have hL_w3r := ltL_alloc hL_w2r (.cells [.int .i64 0, .int .u64 0, .int .u64 0, .slice none 0 0, .slice none 0 0].toArray 35)
                    have sD_w3r := sD_w2r.allocL (.cells [.int .i64 0, .int .u64 0, .int .u64 0, .slice none 0 0, .slice none 0 0].toArray 35)
                    have sO_w3r := sO_w2r.allocL (.cells [.int .i64 0, .int .u64 0, .int .u64 0, .slice none 0 0, .slice none 0 0].toArray 35)
                    generalize (w2r.alloc (.cells [.int .i64 0, .int .u64 0, .int .u64 0, .slice none 0 0, .slice none 0 0].toArray 35)) = w3r at hz_w3r sC_w3r hL_w3r sD_w3r sO_w3r ⊢
                    have hSn := Lib.hid (And.intro (hz_w3r.box (B := MB) (C := [.slice ab1 m1.boxes.length cb1, .int .u64 m1.nv, .slice ah1 m1.homes.length ch1, .slice as1 m1.seats.length cs1, .int .u64 m1.ns, .int .u64 m1.sweeps].toArray) (t := 27) 2 rfl).1 hz_w3r.bel)
                    refine hK _ _ hSn ?_
                    clear hK K
                    try simp only [List.getElem_toArray, List.getElem_cons_succ, List.getElem_cons_zero, Act.put, List.setIfInBounds_toArray, List.set_cons_zero, List.set_cons_succ]
                    refine Hd.one (i := 11) rfl (by kernel_rfl) (fun K hK => ?_)
                    have hs1 := hz_w3r.boxSome (C := [.slice none 0 0, .int .u64 0, .slice none 0 0, .slice none 0 0, .int .u64 0, .int .u64 0]) 1 rfl
                    refine wp_store_op rfl 27 (.tmp 13) (.tmp 105) rfl (w1r.heap.size) 0 [.slice ab2 nb2 cb2, .int .u64 m2.nv, .slice ah2 m2.homes.length ch2, .slice as2 m2.seats.length cs2, .int .u64 m2.ns, .int .u64 m2.sweeps] rfl rfl Tryz.sizeOf27 (al_one6 _ _ _ _ _ _ _ _ _ _ _ _) hs1.1 hs1.2 ?_
                    have hz9 := hz_w3r.fillBox (C := [.slice none 0 0, .int .u64 0, .slice none 0 0, .slice none 0 0, .int .u64 0, .int .u64 0]) 1 rfl [.slice ab2 nb2 cb2, .int .u64 m2.nv, .slice ah2 m2.homes.length ch2, .slice as2 m2.seats.length cs2, .int .u64 m2.ns, .int .u64 m2.sweeps] rfl
                    have sC9 := sC_w3r.setL (.tail _ (.head _)) [.slice ab2 nb2 cb2, .int .u64 m2.nv, .slice ah2 m2.homes.length ch2, .slice as2 m2.seats.length cs2, .int .u64 m2.ns, .int .u64 m2.sweeps]
                    have sD9 := sD_w3r.setL (.tail _ (.head _)) [.slice ab2 nb2 cb2, .int .u64 m2.nv, .slice ah2 m2.homes.length ch2, .slice as2 m2.seats.length cs2, .int .u64 m2.ns, .int .u64 m2.sweeps]
                    have sO9 := sO_w3r.setL (.tail _ (.head _)) [.slice ab2 nb2 cb2, .int .u64 m2.nv, .slice ah2 m2.homes.length ch2, .slice as2 m2.seats.length cs2, .int .u64 m2.ns, .int .u64 m2.sweeps]
                    generalize w3r.setCells (w1r.heap.size) 0 [.slice ab2 nb2 cb2, .int .u64 m2.nv, .slice ah2 m2.homes.length ch2, .slice as2 m2.seats.length cs2, .int .u64 m2.ns, .int .u64 m2.sweeps] = w9r at hz9 sC9 sD9 sO9 ⊢
                    have hSn := Lib.hid (And.intro (hz9.box (B := MB) (C := [.slice ab1 m1.boxes.length cb1, .int .u64 m1.nv, .slice ah1 m1.homes.length ch1, .slice as1 m1.seats.length cs1, .int .u64 m1.ns, .int .u64 m1.sweeps].toArray) (t := 27) 2 rfl).1 hz9.bel)
                    refine hK _ _ hSn ?_
                    clear hK K
                    try simp only [List.getElem_toArray, List.getElem_cons_succ, List.getElem_cons_zero, Act.put, List.setIfInBounds_toArray, List.set_cons_zero, List.set_cons_succ]
                    refine Hd.done (by kernel_rfl) ?_
                    simp only [List.drop_succ_cons, List.drop_zero]
                    have hs2 := hz9.boxSome (C := [.int .i64 0, .int .u64 0, .int .u64 0, .slice none 0 0, .slice none 0 0]) 0 rfl
                    refine wpList_store_cells rfl 35 (.tmp 14) (.tmp 106) rfl (w2r.heap.size) 0 [.int .i64 o2.code, .int .u64 o2.session, .int .u64 o2.validity, .slice aU2 o2.uids.length cU2, .slice aM2 o2.mods.length cM2] rfl rfl Tryz.sizeOf35 (al_one5 _ _ _ _ _ _ _) hs2.1 hs2.2 ?_
                    have hzA := hz9.fillBox (C := [.int .i64 0, .int .u64 0, .int .u64 0, .slice none 0 0, .slice none 0 0]) 0 rfl [.int .i64 o2.code, .int .u64 o2.session, .int .u64 o2.validity, .slice aU2 o2.uids.length cU2, .slice aM2 o2.mods.length cM2] rfl
                    have sCA := sC9.setL (.head _) [.int .i64 o2.code, .int .u64 o2.session, .int .u64 o2.validity, .slice aU2 o2.uids.length cU2, .slice aM2 o2.mods.length cM2]
                    have sDA := sD9.setL (.head _) [.int .i64 o2.code, .int .u64 o2.session, .int .u64 o2.validity, .slice aU2 o2.uids.length cU2, .slice aM2 o2.mods.length cM2]
                    have sOA := sO9.setL (.head _) [.int .i64 o2.code, .int .u64 o2.session, .int .u64 o2.validity, .slice aU2 o2.uids.length cU2, .slice aM2 o2.mods.length cM2]
                    generalize w9r.setCells (w2r.heap.size) 0 [.int .i64 o2.code, .int .u64 o2.session, .int .u64 o2.validity, .slice aU2 o2.uids.length cU2, .slice aM2 o2.mods.length cM2] = wAr at hzA sCA sDA sOA ⊢
                    have hrel : Hid (ApN W MB (w1r.heap.size) (w2r.heap.size) B n' F' m1 m2 o2 wAr) := Lib.hid ⟨_, _, _, hzA, sCA.lessL (mem4 (.tail _ (.tail _ (.head _))) (.tail _ (.head _)) (.head _) (.tail _ (.tail _ (.tail _ (.head _))))), sDA.lessL (mem4 (.tail _ (.tail _ (.head _))) (.tail _ (.head _)) (.head _) (.tail _ (.tail _ (.tail _ (.head _))))), sOA.lessL (mem4 (.tail _ (.tail _ (.head _))) (.tail _ (.head _)) (.head _) (.tail _ (.tail _ (.tail _ (.head _)))))⟩
                    clear hs1 hs2 hz9 sC9 sD9 sO9 hzA sCA sDA sOA
                    go_wp2_with fail
                    go_meet
                    case rel => exact ⟨w1r.heap.size, w2r.heap.size, rfl, rfl, hrel⟩
                  · go_simp
                    have hz_w4r := hz_w1r.newBox [.int .i64 0, .int .u64 0, .int .u64 0, .slice none 0 0, .slice none 0 0].toArray 35
                    have sC_w4r := sC_w1r.allocL (.cells [.int .i64 0, .int .u64 0, .int .u64 0, .slice none 0 0, .slice none 0 0].toArray 35)
                    have hL_w4r := ltL_alloc hL_w1r (.cells [.int .i64 0, .int .u64 0, .int .u64 0, .slice none 0 0, .slice none 0 0].toArray 35)
                    have sD_w4r := sD_w1r.allocL (.cells [.int .i64 0, .int .u64 0, .int .u64 0, .slice none 0 0, .slice none 0 0].toArray 35)
                    have sO_w4r := sO_w1r.allocL (.cells [.int .i64 0, .int .u64 0, .int .u64 0, .slice none 0 0, .slice none 0 0].toArray 35)
                    generalize (w1r.alloc (.cells [.int .i64 0, .int .u64 0, .int .u64 0, .slice none 0 0, .slice none 0 0].toArray 35)) = w4r at hz_w4r sC_w4r hL_w4r sD_w4r sO_w4r ⊢
                    have hSn := Lib.hid (And.intro (hz_w4r.box (B := MB) (C := [.slice ab1 m1.boxes.length cb1, .int .u64 m1.nv, .slice ah1 m1.homes.length ch1, .slice as1 m1.seats.length cs1, .int .u64 m1.ns, .int .u64 m1.sweeps].toArray) (t := 27) 1 rfl).1 hz_w4r.bel)
                    refine hK _ _ hSn ?_
                    clear hK K
                    try simp only [List.getElem_toArray, List.getElem_cons_succ, List.getElem_cons_zero, Act.put, List.setIfInBounds_toArray, List.set_cons_zero, List.set_cons_succ]
                    refine Hd.one (i := 9) rfl (by kernel_rfl) (fun K hK => ?_)
                    go_simp
                    have hz_w5r := hz_w4r.newBox [.slice none 0 0, .int .u64 0, .slice none 0 0, .slice none 0 0, .int .u64 0, .int .u64 0].toArray 27
                    have sC_w5r := sC_w4r.allocL (.cells [.slice none 0 0, .int .u64 0, .slice none 0 0, .slice none 0 0, .int .u64 0, .int .u64 0].toArray 27)
                    have hL_w5r := ltL_alloc hL_w4r (.cells [.slice none 0 0, .int .u64 0, .slice none 0 0, .slice none 0 0, .int .u64 0, .int .u64 0].toArray 27)
                    have sD_w5r := sD_w4r.allocL (.cells [.slice none 0 0, .int .u64 0, .slice none 0 0, .slice none 0 0, .int .u64 0, .int .u64 0].toArray 27)
                    have sO_w5r := sO_w4r.allocL (.cells [.slice none 0 0, .int .u64 0, .slice none 0 0, .slice none 0 0, .int .u64 0, .int .u64 0].toArray 27)
                    generalize (w4r.alloc (.cells [.slice none 0 0, .int .u64 0, .slice none 0 0, .slice none 0 0, .int .u64 0, .int .u64 0].toArray 27)) = w5r at hz_w5r sC_w5r hL_w5r sD_w5r sO_w5r ⊢
                    have hSn := Lib.hid (And.intro (hz_w5r.box (B := MB) (C := [.slice ab1 m1.boxes.length cb1, .int .u64 m1.nv, .slice ah1 m1.homes.length ch1, .slice as1 m1.seats.length cs1, .int .u64 m1.ns, .int .u64 m1.sweeps].toArray) (t := 27) 2 rfl).1 hz_w5r.bel)
                    refine hK _ _ hSn ?_
                    clear hK K
                    try simp only [List.getElem_toArray, List.getElem_cons_succ, List.getElem_cons_zero, Act.put, List.setIfInBounds_toArray, List.set_cons_zero, List.set_cons_succ]
                    refine Hd.one (i := 11) rfl (by kernel_rfl) (fun K hK => ?_)
                    have hs1 := hz_w5r.boxSome (C := [.slice none 0 0, .int .u64 0, .slice none 0 0, .slice none 0 0, .int .u64 0, .int .u64 0]) 0 rfl
                    refine wp_store_op rfl 27 (.tmp 13) (.tmp 105) rfl (w4r.heap.size) 0 [.slice ab2 nb2 cb2, .int .u64 m2.nv, .slice ah2 m2.homes.length ch2, .slice as2 m2.seats.length cs2, .int .u64 m2.ns, .int .u64 m2.sweeps] rfl rfl Tryz.sizeOf27 (al_one6 _ _ _ _ _ _ _ _ _ _ _ _) hs1.1 hs1.2 ?_
                    have hz9 := hz_w5r.fillBox (C := [.slice none 0 0, .int .u64 0, .slice none 0 0, .slice none 0 0, .int .u64 0, .int .u64 0]) 0 rfl [.slice ab2 nb2 cb2, .int .u64 m2.nv, .slice ah2 m2.homes.length ch2, .slice as2 m2.seats.length cs2, .int .u64 m2.ns, .int .u64 m2.sweeps] rfl
                    have sC9 := sC_w5r.setL (.head _) [.slice ab2 nb2 cb2, .int .u64 m2.nv, .slice ah2 m2.homes.length ch2, .slice as2 m2.seats.length cs2, .int .u64 m2.ns, .int .u64 m2.sweeps]
                    have sD9 := sD_w5r.setL (.head _) [.slice ab2 nb2 cb2, .int .u64 m2.nv, .slice ah2 m2.homes.length ch2, .slice as2 m2.seats.length cs2, .int .u64 m2.ns, .int .u64 m2.sweeps]
                    have sO9 := sO_w5r.setL (.head _) [.slice ab2 nb2 cb2, .int .u64 m2.nv, .slice ah2 m2.homes.length ch2, .slice as2 m2.seats.length cs2, .int .u64 m2.ns, .int .u64 m2.sweeps]
                    generalize w5r.setCells (w4r.heap.size) 0 [.slice ab2 nb2 cb2, .int .u64 m2.nv, .slice ah2 m2.homes.length ch2, .slice as2 m2.seats.length cs2, .int .u64 m2.ns, .int .u64 m2.sweeps] = w9r at hz9 sC9 sD9 sO9 ⊢
                    have hSn := Lib.hid (And.intro (hz9.box (B := MB) (C := [.slice ab1 m1.boxes.length cb1, .int .u64 m1.nv, .slice ah1 m1.homes.length ch1, .slice as1 m1.seats.length cs1, .int .u64 m1.ns, .int .u64 m1.sweeps].toArray) (t := 27) 2 rfl).1 hz9.bel)
                    refine hK _ _ hSn ?_
                    clear hK K
                    try simp only [List.getElem_toArray, List.getElem_cons_succ, List.getElem_cons_zero, Act.put, List.setIfInBounds_toArray, List.set_cons_zero, List.set_cons_succ]
                    refine Hd.done (by kernel_rfl) ?_
                    simp only [List.drop_succ_cons, List.drop_zero]
                    have hs2 := hz9.boxSome (C := [.int .i64 0, .int .u64 0, .int .u64 0, .slice none 0 0, .slice none 0 0]) 1 rfl
                    refine wpList_store_cells rfl 35 (.tmp 14) (.tmp 106) rfl (w1r.heap.size) 0 [.int .i64 o2.code, .int .u64 o2.session, .int .u64 o2.validity, .slice aU2 o2.uids.length cU2, .slice aM2 o2.mods.length cM2] rfl rfl Tryz.sizeOf35 (al_one5 _ _ _ _ _ _ _) hs2.1 hs2.2 ?_
                    have hzA := hz9.fillBox (C := [.int .i64 0, .int .u64 0, .int .u64 0, .slice none 0 0, .slice none 0 0]) 1 rfl [.int .i64 o2.code, .int .u64 o2.session, .int .u64 o2.validity, .slice aU2 o2.uids.length cU2, .slice aM2 o2.mods.length cM2] rfl
                    have sCA := sC9.setL (.tail _ (.head _)) [.int .i64 o2.code, .int .u64 o2.session, .int .u64 o2.validity, .slice aU2 o2.uids.length cU2, .slice aM2 o2.mods.length cM2]
                    have sDA := sD9.setL (.tail _ (.head _)) [.int .i64 o2.code, .int .u64 o2.session, .int .u64 o2.validity, .slice aU2 o2.uids.length cU2, .slice aM2 o2.mods.length cM2]
                    have sOA := sO9.setL (.tail _ (.head _)) [.int .i64 o2.code, .int .u64 o2.session, .int .u64 o2.validity, .slice aU2 o2.uids.length cU2, .slice aM2 o2.mods.length cM2]
                    generalize w9r.setCells (w1r.heap.size) 0 [.int .i64 o2.code, .int .u64 o2.session, .int .u64 o2.validity, .slice aU2 o2.uids.length cU2, .slice aM2 o2.mods.length cM2] = wAr at hzA sCA sDA sOA ⊢
                    have hrel : Hid (ApN W MB (w4r.heap.size) (w1r.heap.size) B n' F' m1 m2 o2 wAr) := Lib.hid ⟨_, _, _, hzA.swap, sCA.lessL (mem4 (.tail _ (.tail _ (.head _))) (.head _) (.tail _ (.head _)) (.tail _ (.tail _ (.tail _ (.head _))))), sDA.lessL (mem4 (.tail _ (.tail _ (.head _))) (.head _) (.tail _ (.head _)) (.tail _ (.tail _ (.tail _ (.head _))))), sOA.lessL (mem4 (.tail _ (.tail _ (.head _))) (.head _) (.tail _ (.head _)) (.tail _ (.tail _ (.tail _ (.head _)))))⟩
                    clear hs1 hs2 hz9 sC9 sD9 sO9 hzA sCA sDA sOA
                    go_wp2_with fail
                    go_meet
                    case rel => exact ⟨w4r.heap.size, w1r.heap.size, rfl, rfl, hrel⟩
                · go_simp
                  have hz_w6r := hzd.newBox [.slice none 0 0, .int .u64 0, .slice none 0 0, .slice none 0 0, .int .u64 0, .int .u64 0].toArray 27
                  have sC_w6r := sC0.allocL (.cells [.slice none 0 0, .int .u64 0, .slice none 0 0, .slice none 0 0, .int .u64 0, .int .u64 0].toArray 27)
                  have hL_w6r := ltL_alloc hL0 (.cells [.slice none 0 0, .int .u64 0, .slice none 0 0, .slice none 0 0, .int .u64 0, .int .u64 0].toArray 27)
                  generalize (Wd.alloc (.cells [.slice none 0 0, .int .u64 0, .slice none 0 0, .slice none 0 0, .int .u64 0, .int .u64 0].toArray 27)) = w6r at hz_w6r sC_w6r hL_w6r ⊢
                  have hSn := Lib.hid (And.intro (hz_w6r.box (B := MB) (C := [.slice ab1 m1.boxes.length cb1, .int .u64 m1.nv, .slice ah1 m1.homes.length ch1, .slice as1 m1.seats.length cs1, .int .u64 m1.ns, .int .u64 m1.sweeps].toArray) (t := 27) 1 rfl).1 hz_w6r.bel)
                  refine hK _ _ hSn ?_
                  clear hK K
                  try simp only [List.getElem_toArray, List.getElem_cons_succ, List.getElem_cons_zero, Act.put, List.setIfInBounds_toArray, List.set_cons_zero, List.set_cons_succ]
                  refine Hd.two (i := 5) (k := 10) rfl rfl (by kernel_rfl) (fun K hK => ?_) (fun K hK => ?_)
                  · go_simp
                    refine (apply_any _ sC_w6r.now hr1.out.ap (hqi.out w6r hz_w6r.bel) hqo.out).mono ?_
                    rw [hap.out]
                    rintro e w7r ⟨vD, oD, rfl, hvD, hoD, hb_w7r⟩
                    dsimp only
                    obtain ⟨ab2, cb2, nb2, ah2, ch2, as2, cs2, rfl⟩ := hvD.out.now.out_
                    obtain ⟨aU2, cU2, aM2, cM2, rfl⟩ := hoD.out.now.out_
                    have hz_w7r := hz_w6r.below hb_w7r.out
                    have sC_w7r := sC_w6r.below hb_w7r.out
                    have sD_w7r := hvD.out.okL hL_w6r
                    have sO_w7r := hoD.out.okL hL_w6r
                    have hL_w7r := ltL_below hL_w6r hb_w7r.out.size
                    clear hvD hoD
                    have hSn := Lib.hid (And.intro (hz_w7r.box (B := MB) (C := [.slice ab1 m1.boxes.length cb1, .int .u64 m1.nv, .slice ah1 m1.homes.length ch1, .slice as1 m1.seats.length cs1, .int .u64 m1.ns, .int .u64 m1.sweeps].toArray) (t := 27) 1 rfl).1 hz_w7r.bel)
                    refine hK _ _ hSn ?_
                    clear hK K
                    try simp only [List.getElem_toArray, List.getElem_cons_succ, List.getElem_cons_zero, Act.put, List.setIfInBounds_toArray, List.set_cons_zero, List.set_cons_succ]
                    refine Hd.take (i := 6) (v := ?tv637) hok rfl (by kernel_rfl) (fun _ _ _ h => h) (Or.inl ⟨by rfl, ?ty637⟩) (by assumption) ?tr637
                    case ty637 => (intro w hSw; (try dsimp only at hSw); go_simp; (try with_reducible rfl))
                    try simp only [List.getElem_toArray, List.getElem_cons_succ, List.getElem_cons_zero, Act.put, List.setIfInBounds_toArray, List.set_cons_zero, List.set_cons_succ]
                    refine Hd.take (i := 7) (v := ?tv638) hok rfl (by kernel_rfl) (fun _ _ _ h => h) (Or.inl ⟨by rfl, ?ty638⟩) (by assumption) ?tr638
                    case ty638 => (intro w hSw; (try dsimp only at hSw); go_simp; (try with_reducible rfl))
                    try simp only [List.getElem_toArray, List.getElem_cons_succ, List.getElem_cons_zero, Act.put, List.setIfInBounds_toArray, List.set_cons_zero, List.set_cons_succ]
                    refine Hd.take (i := 8) (v := ?tv639) hok rfl (by kernel_rfl) (fun _ _ _ h => h) (Or.inl ⟨by rfl, ?ty639⟩) (by assumption) ?tr639
                    case ty639 => (intro w hSw; (try dsimp only at hSw); go_simp; (try with_reducible rfl))
                    try simp only [List.getElem_toArray, List.getElem_cons_succ, List.getElem_cons_zero, Act.put, List.setIfInBounds_toArray, List.set_cons_zero, List.set_cons_succ]
                    refine Hd.one (i := 10) rfl (by kernel_rfl) (fun K hK => ?_)
                    go_simp
                    have hz_w8r := hz_w7r.newBox [.int .i64 0, .int .u64 0, .int .u64 0, .slice none 0 0, .slice none 0 0].toArray 35
                    have sC_w8r := sC_w7r.allocL (.cells [.int .i64 0, .int .u64 0, .int .u64 0, .slice none 0 0, .slice none 0 0].toArray 35)
                    have hL_w8r := ltL_alloc hL_w7r (.cells [.int .i64 0, .int .u64 0, .int .u64 0, .slice none 0 0, .slice none 0 0].toArray 35)
                    have sD_w8r := sD_w7r.allocL (.cells [.int .i64 0, .int .u64 0, .int .u64 0, .slice none 0 0, .slice none 0 0].toArray 35)
                    have sO_w8r := sO_w7r.allocL (.cells [.int .i64 0, .int .u64 0, .int .u64 0, .slice none 0 0, .slice none 0 0].toArray 35)
                    generalize (w7r.alloc (.cells [.int .i64 0, .int .u64 0, .int .u64 0, .slice none 0 0, .slice none 0 0].toArray 35)) = w8r at hz_w8r sC_w8r hL_w8r sD_w8r sO_w8r ⊢
                    have hSn := Lib.hid (And.intro (hz_w8r.box (B := MB) (C := [.slice ab1 m1.boxes.length cb1, .int .u64 m1.nv, .slice ah1 m1.homes.length ch1, .slice as1 m1.seats.length cs1, .int .u64 m1.ns, .int .u64 m1.sweeps].toArray) (t := 27) 2 rfl).1 hz_w8r.bel)
                    refine hK _ _ hSn ?_
                    clear hK K
                    try simp only [List.getElem_toArray, List.getElem_cons_succ, List.getElem_cons_zero, Act.put, List.setIfInBounds_toArray, List.set_cons_zero, List.set_cons_succ]
                    refine Hd.one (i := 11) rfl (by kernel_rfl) (fun K hK => ?_)
                    have hs1 := hz_w8r.boxSome (C := [.slice none 0 0, .int .u64 0, .slice none 0 0, .slice none 0 0, .int .u64 0, .int .u64 0]) 1 rfl
                    refine wp_store_op rfl 27 (.tmp 13) (.tmp 105) rfl (Wd.heap.size) 0 [.slice ab2 nb2 cb2, .int .u64 m2.nv, .slice ah2 m2.homes.length ch2, .slice as2 m2.seats.length cs2, .int .u64 m2.ns, .int .u64 m2.sweeps] rfl rfl Tryz.sizeOf27 (al_one6 _ _ _ _ _ _ _ _ _ _ _ _) hs1.1 hs1.2 ?_
                    have hz9 := hz_w8r.fillBox (C := [.slice none 0 0, .int .u64 0, .slice none 0 0, .slice none 0 0, .int .u64 0, .int .u64 0]) 1 rfl [.slice ab2 nb2 cb2, .int .u64 m2.nv, .slice ah2 m2.homes.length ch2, .slice as2 m2.seats.length cs2, .int .u64 m2.ns, .int .u64 m2.sweeps] rfl
                    have sC9 := sC_w8r.setL (.tail _ (.head _)) [.slice ab2 nb2 cb2, .int .u64 m2.nv, .slice ah2 m2.homes.length ch2, .slice as2 m2.seats.length cs2, .int .u64 m2.ns, .int .u64 m2.sweeps]
                    have sD9 := sD_w8r.setL (.tail _ (.head _)) [.slice ab2 nb2 cb2, .int .u64 m2.nv, .slice ah2 m2.homes.length ch2, .slice as2 m2.seats.length cs2, .int .u64 m2.ns, .int .u64 m2.sweeps]
                    have sO9 := sO_w8r.setL (.tail _ (.head _)) [.slice ab2 nb2 cb2, .int .u64 m2.nv, .slice ah2 m2.homes.length ch2, .slice as2 m2.seats.length cs2, .int .u64 m2.ns, .int .u64 m2.sweeps]
                    generalize w8r.setCells (Wd.heap.size) 0 [.slice ab2 nb2 cb2, .int .u64 m2.nv, .slice ah2 m2.homes.length ch2, .slice as2 m2.seats.length cs2, .int .u64 m2.ns, .int .u64 m2.sweeps] = w9r at hz9 sC9 sD9 sO9 ⊢
                    have hSn := Lib.hid (And.intro (hz9.box (B := MB) (C := [.slice ab1 m1.boxes.length cb1, .int .u64 m1.nv, .slice ah1 m1.homes.length ch1, .slice as1 m1.seats.length cs1, .int .u64 m1.ns, .int .u64 m1.sweeps].toArray) (t := 27) 2 rfl).1 hz9.bel)
                    refine hK _ _ hSn ?_
                    clear hK K
                    try simp only [List.getElem_toArray, List.getElem_cons_succ, List.getElem_cons_zero, Act.put, List.setIfInBounds_toArray, List.set_cons_zero, List.set_cons_succ]
                    refine Hd.done (by kernel_rfl) ?_
                    simp only [List.drop_succ_cons, List.drop_zero]
                    have hs2 := hz9.boxSome (C := [.int .i64 0, .int .u64 0, .int .u64 0, .slice none 0 0, .slice none 0 0]) 0 rfl
                    refine wpList_store_cells rfl 35 (.tmp 14) (.tmp 106) rfl (w7r.heap.size) 0 [.int .i64 o2.code, .int .u64 o2.session, .int .u64 o2.validity, .slice aU2 o2.uids.length cU2, .slice aM2 o2.mods.length cM2] rfl rfl Tryz.sizeOf35 (al_one5 _ _ _ _ _ _ _) hs2.1 hs2.2 ?_
                    have hzA := hz9.fillBox (C := [.int .i64 0, .int .u64 0, .int .u64 0, .slice none 0 0, .slice none 0 0]) 0 rfl [.int .i64 o2.code, .int .u64 o2.session, .int .u64 o2.validity, .slice aU2 o2.uids.length cU2, .slice aM2 o2.mods.length cM2] rfl
                    have sCA := sC9.setL (.head _) [.int .i64 o2.code, .int .u64 o2.session, .int .u64 o2.validity, .slice aU2 o2.uids.length cU2, .slice aM2 o2.mods.length cM2]
                    have sDA := sD9.setL (.head _) [.int .i64 o2.code, .int .u64 o2.session, .int .u64 o2.validity, .slice aU2 o2.uids.length cU2, .slice aM2 o2.mods.length cM2]
                    have sOA := sO9.setL (.head _) [.int .i64 o2.code, .int .u64 o2.session, .int .u64 o2.validity, .slice aU2 o2.uids.length cU2, .slice aM2 o2.mods.length cM2]
                    generalize w9r.setCells (w7r.heap.size) 0 [.int .i64 o2.code, .int .u64 o2.session, .int .u64 o2.validity, .slice aU2 o2.uids.length cU2, .slice aM2 o2.mods.length cM2] = wAr at hzA sCA sDA sOA ⊢
                    have hrel : Hid (ApN W MB (Wd.heap.size) (w7r.heap.size) B n' F' m1 m2 o2 wAr) := Lib.hid ⟨_, _, _, hzA, sCA.lessL (mem4 (.tail _ (.tail _ (.head _))) (.tail _ (.head _)) (.head _) (.tail _ (.tail _ (.tail _ (.head _))))), sDA.lessL (mem4 (.tail _ (.tail _ (.head _))) (.tail _ (.head _)) (.head _) (.tail _ (.tail _ (.tail _ (.head _))))), sOA.lessL (mem4 (.tail _ (.tail _ (.head _))) (.tail _ (.head _)) (.head _) (.tail _ (.tail _ (.tail _ (.head _)))))⟩
                    clear hs1 hs2 hz9 sC9 sD9 sO9 hzA sCA sDA sOA
                    go_wp2_with fail
                    go_meet
                    case rel => exact ⟨Wd.heap.size, w7r.heap.size, rfl, rfl, hrel⟩
                  · go_simp
                    have hz_w9r := hz_w6r.newBox [.int .i64 0, .int .u64 0, .int .u64 0, .slice none 0 0, .slice none 0 0].toArray 35
                    have sC_w9r := sC_w6r.allocL (.cells [.int .i64 0, .int .u64 0, .int .u64 0, .slice none 0 0, .slice none 0 0].toArray 35)
                    have hL_w9r := ltL_alloc hL_w6r (.cells [.int .i64 0, .int .u64 0, .int .u64 0, .slice none 0 0, .slice none 0 0].toArray 35)
                    generalize (w6r.alloc (.cells [.int .i64 0, .int .u64 0, .int .u64 0, .slice none 0 0, .slice none 0 0].toArray 35)) = w9r at hz_w9r sC_w9r hL_w9r ⊢
                    have hSn := Lib.hid (And.intro (hz_w9r.box (B := MB) (C := [.slice ab1 m1.boxes.length cb1, .int .u64 m1.nv, .slice ah1 m1.homes.length ch1, .slice as1 m1.seats.length cs1, .int .u64 m1.ns, .int .u64 m1.sweeps].toArray) (t := 27) 2 rfl).1 hz_w9r.bel)
                    refine hK _ _ hSn ?_
                    clear hK K
                    try simp only [List.getElem_toArray, List.getElem_cons_succ, List.getElem_cons_zero, Act.put, List.setIfInBounds_toArray, List.set_cons_zero, List.set_cons_succ]
                    refine Hd.one (i := 5) rfl (by kernel_rfl) (fun K hK => ?_)
                    go_simp
                    refine (apply_any _ sC_w9r.now hr1.out.ap (hqi.out w9r hz_w9r.bel) hqo.out).mono ?_
                    rw [hap.out]
                    rintro e w10r ⟨vD, oD, rfl, hvD, hoD, hb_w10r⟩
                    dsimp only
                    obtain ⟨ab2, cb2, nb2, ah2, ch2, as2, cs2, rfl⟩ := hvD.out.now.out_
                    obtain ⟨aU2, cU2, aM2, cM2, rfl⟩ := hoD.out.now.out_
                    have hz_w10r := hz_w9r.below hb_w10r.out
                    have sC_w10r := sC_w9r.below hb_w10r.out
                    have sD_w10r := hvD.out.okL hL_w9r
                    have sO_w10r := hoD.out.okL hL_w9r
                    have hL_w10r := ltL_below hL_w9r hb_w10r.out.size
                    clear hvD hoD
                    have hSn := Lib.hid (And.intro (hz_w10r.box (B := MB) (C := [.slice ab1 m1.boxes.length cb1, .int .u64 m1.nv, .slice ah1 m1.homes.length ch1, .slice as1 m1.seats.length cs1, .int .u64 m1.ns, .int .u64 m1.sweeps].toArray) (t := 27) 2 rfl).1 hz_w10r.bel)
                    refine hK _ _ hSn ?_
                    clear hK K
                    try simp only [List.getElem_toArray, List.getElem_cons_succ, List.getElem_cons_zero, Act.put, List.setIfInBounds_toArray, List.set_cons_zero, List.set_cons_succ]
                    refine Hd.take (i := 6) (v := ?tv640) hok rfl (by kernel_rfl) (fun _ _ _ h => h) (Or.inl ⟨by rfl, ?ty640⟩) (by assumption) ?tr640
                    case ty640 => (intro w hSw; (try dsimp only at hSw); go_simp; (try with_reducible rfl))
                    try simp only [List.getElem_toArray, List.getElem_cons_succ, List.getElem_cons_zero, Act.put, List.setIfInBounds_toArray, List.set_cons_zero, List.set_cons_succ]
                    refine Hd.take (i := 7) (v := ?tv641) hok rfl (by kernel_rfl) (fun _ _ _ h => h) (Or.inl ⟨by rfl, ?ty641⟩) (by assumption) ?tr641
                    case ty641 => (intro w hSw; (try dsimp only at hSw); go_simp; (try with_reducible rfl))
                    try simp only [List.getElem_toArray, List.getElem_cons_succ, List.getElem_cons_zero, Act.put, List.setIfInBounds_toArray, List.set_cons_zero, List.set_cons_succ]
                    refine Hd.take (i := 8) (v := ?tv642) hok rfl (by kernel_rfl) (fun _ _ _ h => h) (Or.inl ⟨by rfl, ?ty642⟩) (by assumption) ?tr642
                    case ty642 => (intro w hSw; (try dsimp only at hSw); go_simp; (try with_reducible rfl))
                    try simp only [List.getElem_toArray, List.getElem_cons_succ, List.getElem_cons_zero, Act.put, List.setIfInBounds_toArray, List.set_cons_zero, List.set_cons_succ]
                    refine Hd.one (i := 11) rfl (by kernel_rfl) (fun K hK => ?_)
                    have hs1 := hz_w10r.boxSome (C := [.slice none 0 0, .int .u64 0, .slice none 0 0, .slice none 0 0, .int .u64 0, .int .u64 0]) 1 rfl
                    refine wp_store_op rfl 27 (.tmp 13) (.tmp 105) rfl (Wd.heap.size) 0 [.slice ab2 nb2 cb2, .int .u64 m2.nv, .slice ah2 m2.homes.length ch2, .slice as2 m2.seats.length cs2, .int .u64 m2.ns, .int .u64 m2.sweeps] rfl rfl Tryz.sizeOf27 (al_one6 _ _ _ _ _ _ _ _ _ _ _ _) hs1.1 hs1.2 ?_
                    have hz9 := hz_w10r.fillBox (C := [.slice none 0 0, .int .u64 0, .slice none 0 0, .slice none 0 0, .int .u64 0, .int .u64 0]) 1 rfl [.slice ab2 nb2 cb2, .int .u64 m2.nv, .slice ah2 m2.homes.length ch2, .slice as2 m2.seats.length cs2, .int .u64 m2.ns, .int .u64 m2.sweeps] rfl
                    have sC9 := sC_w10r.setL (.tail _ (.head _)) [.slice ab2 nb2 cb2, .int .u64 m2.nv, .slice ah2 m2.homes.length ch2, .slice as2 m2.seats.length cs2, .int .u64 m2.ns, .int .u64 m2.sweeps]
                    have sD9 := sD_w10r.setL (.tail _ (.head _)) [.slice ab2 nb2 cb2, .int .u64 m2.nv, .slice ah2 m2.homes.length ch2, .slice as2 m2.seats.length cs2, .int .u64 m2.ns, .int .u64 m2.sweeps]
                    have sO9 := sO_w10r.setL (.tail _ (.head _)) [.slice ab2 nb2 cb2, .int .u64 m2.nv, .slice ah2 m2.homes.length ch2, .slice as2 m2.seats.length cs2, .int .u64 m2.ns, .int .u64 m2.sweeps]
                    generalize w10r.setCells (Wd.heap.size) 0 [.slice ab2 nb2 cb2, .int .u64 m2.nv, .slice ah2 m2.homes.length ch2, .slice as2 m2.seats.length cs2, .int .u64 m2.ns, .int .u64 m2.sweeps] = w9r at hz9 sC9 sD9 sO9 ⊢
                    have hSn := Lib.hid (And.intro (hz9.box (B := MB) (C := [.slice ab1 m1.boxes.length cb1, .int .u64 m1.nv, .slice ah1 m1.homes.length ch1, .slice as1 m1.seats.length cs1, .int .u64 m1.ns, .int .u64 m1.sweeps].toArray) (t := 27) 2 rfl).1 hz9.bel)
                    refine hK _ _ hSn ?_
                    clear hK K
                    try simp only [List.getElem_toArray, List.getElem_cons_succ, List.getElem_cons_zero, Act.put, List.setIfInBounds_toArray, List.set_cons_zero, List.set_cons_succ]
                    refine Hd.done (by kernel_rfl) ?_
                    simp only [List.drop_succ_cons, List.drop_zero]
                    have hs2 := hz9.boxSome (C := [.int .i64 0, .int .u64 0, .int .u64 0, .slice none 0 0, .slice none 0 0]) 0 rfl
                    refine wpList_store_cells rfl 35 (.tmp 14) (.tmp 106) rfl (w6r.heap.size) 0 [.int .i64 o2.code, .int .u64 o2.session, .int .u64 o2.validity, .slice aU2 o2.uids.length cU2, .slice aM2 o2.mods.length cM2] rfl rfl Tryz.sizeOf35 (al_one5 _ _ _ _ _ _ _) hs2.1 hs2.2 ?_
                    have hzA := hz9.fillBox (C := [.int .i64 0, .int .u64 0, .int .u64 0, .slice none 0 0, .slice none 0 0]) 0 rfl [.int .i64 o2.code, .int .u64 o2.session, .int .u64 o2.validity, .slice aU2 o2.uids.length cU2, .slice aM2 o2.mods.length cM2] rfl
                    have sCA := sC9.setL (.head _) [.int .i64 o2.code, .int .u64 o2.session, .int .u64 o2.validity, .slice aU2 o2.uids.length cU2, .slice aM2 o2.mods.length cM2]
                    have sDA := sD9.setL (.head _) [.int .i64 o2.code, .int .u64 o2.session, .int .u64 o2.validity, .slice aU2 o2.uids.length cU2, .slice aM2 o2.mods.length cM2]
                    have sOA := sO9.setL (.head _) [.int .i64 o2.code, .int .u64 o2.session, .int .u64 o2.validity, .slice aU2 o2.uids.length cU2, .slice aM2 o2.mods.length cM2]
                    generalize w9r.setCells (w6r.heap.size) 0 [.int .i64 o2.code, .int .u64 o2.session, .int .u64 o2.validity, .slice aU2 o2.uids.length cU2, .slice aM2 o2.mods.length cM2] = wAr at hzA sCA sDA sOA ⊢
                    have hrel : Hid (ApN W MB (Wd.heap.size) (w6r.heap.size) B n' F' m1 m2 o2 wAr) := Lib.hid ⟨_, _, _, hzA, sCA.lessL (mem4 (.tail _ (.tail _ (.head _))) (.tail _ (.head _)) (.head _) (.tail _ (.tail _ (.tail _ (.head _))))), sDA.lessL (mem4 (.tail _ (.tail _ (.head _))) (.tail _ (.head _)) (.head _) (.tail _ (.tail _ (.tail _ (.head _))))), sOA.lessL (mem4 (.tail _ (.tail _ (.head _))) (.tail _ (.head _)) (.head _) (.tail _ (.tail _ (.tail _ (.head _)))))⟩
                    clear hs1 hs2 hz9 sC9 sD9 sO9 hzA sCA sDA sOA
                    go_wp2_with fail
                    go_meet
                    case rel => exact ⟨Wd.heap.size, w6r.heap.size, rfl, rfl, hrel⟩
                · go_simp
                  have hz_w11r := hzd.newBox [.int .i64 0, .int .u64 0, .int .u64 0, .slice none 0 0, .slice none 0 0].toArray 35
                  have sC_w11r := sC0.allocL (.cells [.int .i64 0, .int .u64 0, .int .u64 0, .slice none 0 0, .slice none 0 0].toArray 35)
                  have hL_w11r := ltL_alloc hL0 (.cells [.int .i64 0, .int .u64 0, .int .u64 0, .slice none 0 0, .slice none 0 0].toArray 35)
                  generalize (Wd.alloc (.cells [.int .i64 0, .int .u64 0, .int .u64 0, .slice none 0 0, .slice none 0 0].toArray 35)) = w11r at hz_w11r sC_w11r hL_w11r ⊢
                  have hSn := Lib.hid (And.intro (hz_w11r.box (B := MB) (C := [.slice ab1 m1.boxes.length cb1, .int .u64 m1.nv, .slice ah1 m1.homes.length ch1, .slice as1 m1.seats.length cs1, .int .u64 m1.ns, .int .u64 m1.sweeps].toArray) (t := 27) 1 rfl).1 hz_w11r.bel)
                  refine hK _ _ hSn ?_
                  clear hK K
                  try simp only [List.getElem_toArray, List.getElem_cons_succ, List.getElem_cons_zero, Act.put, List.setIfInBounds_toArray, List.set_cons_zero, List.set_cons_succ]
                  refine Hd.two (i := 5) (k := 9) rfl rfl (by kernel_rfl) (fun K hK => ?_) (fun K hK => ?_)
                  · go_simp
                    refine (apply_any _ sC_w11r.now hr1.out.ap (hqi.out w11r hz_w11r.bel) hqo.out).mono ?_
                    rw [hap.out]
                    rintro e w12r ⟨vD, oD, rfl, hvD, hoD, hb_w12r⟩
                    dsimp only
                    obtain ⟨ab2, cb2, nb2, ah2, ch2, as2, cs2, rfl⟩ := hvD.out.now.out_
                    obtain ⟨aU2, cU2, aM2, cM2, rfl⟩ := hoD.out.now.out_
                    have hz_w12r := hz_w11r.below hb_w12r.out
                    have sC_w12r := sC_w11r.below hb_w12r.out
                    have sD_w12r := hvD.out.okL hL_w11r
                    have sO_w12r := hoD.out.okL hL_w11r
                    have hL_w12r := ltL_below hL_w11r hb_w12r.out.size
                    clear hvD hoD
                    have hSn := Lib.hid (And.intro (hz_w12r.box (B := MB) (C := [.slice ab1 m1.boxes.length cb1, .int .u64 m1.nv, .slice ah1 m1.homes.length ch1, .slice as1 m1.seats.length cs1, .int .u64 m1.ns, .int .u64 m1.sweeps].toArray) (t := 27) 1 rfl).1 hz_w12r.bel)
                    refine hK _ _ hSn ?_
                    clear hK K
                    try simp only [List.getElem_toArray, List.getElem_cons_succ, List.getElem_cons_zero, Act.put, List.setIfInBounds_toArray, List.set_cons_zero, List.set_cons_succ]
                    refine Hd.take (i := 6) (v := ?tv643) hok rfl (by kernel_rfl) (fun _ _ _ h => h) (Or.inl ⟨by rfl, ?ty643⟩) (by assumption) ?tr643
                    case ty643 => (intro w hSw; (try dsimp only at hSw); go_simp; (try with_reducible rfl))
                    try simp only [List.getElem_toArray, List.getElem_cons_succ, List.getElem_cons_zero, Act.put, List.setIfInBounds_toArray, List.set_cons_zero, List.set_cons_succ]
                    refine Hd.take (i := 7) (v := ?tv644) hok rfl (by kernel_rfl) (fun _ _ _ h => h) (Or.inl ⟨by rfl, ?ty644⟩) (by assumption) ?tr644
                    case ty644 => (intro w hSw; (try dsimp only at hSw); go_simp; (try with_reducible rfl))
                    try simp only [List.getElem_toArray, List.getElem_cons_succ, List.getElem_cons_zero, Act.put, List.setIfInBounds_toArray, List.set_cons_zero, List.set_cons_succ]
                    refine Hd.take (i := 8) (v := ?tv645) hok rfl (by kernel_rfl) (fun _ _ _ h => h) (Or.inl ⟨by rfl, ?ty645⟩) (by assumption) ?tr645
                    case ty645 => (intro w hSw; (try dsimp only at hSw); go_simp; (try with_reducible rfl))
                    try simp only [List.getElem_toArray, List.getElem_cons_succ, List.getElem_cons_zero, Act.put, List.setIfInBounds_toArray, List.set_cons_zero, List.set_cons_succ]
                    refine Hd.one (i := 9) rfl (by kernel_rfl) (fun K hK => ?_)
                    go_simp
                    have hz_w13r := hz_w12r.newBox [.slice none 0 0, .int .u64 0, .slice none 0 0, .slice none 0 0, .int .u64 0, .int .u64 0].toArray 27
                    have sC_w13r := sC_w12r.allocL (.cells [.slice none 0 0, .int .u64 0, .slice none 0 0, .slice none 0 0, .int .u64 0, .int .u64 0].toArray 27)
                    have hL_w13r := ltL_alloc hL_w12r (.cells [.slice none 0 0, .int .u64 0, .slice none 0 0, .slice none 0 0, .int .u64 0, .int .u64 0].toArray 27)
                    have sD_w13r := sD_w12r.allocL (.cells [.slice none 0 0, .int .u64 0, .slice none 0 0, .slice none 0 0, .int .u64 0, .int .u64 0].toArray 27)
                    have sO_w13r := sO_w12r.allocL (.cells [.slice none 0 0, .int .u64 0, .slice none 0 0, .slice none 0 0, .int .u64 0, .int .u64 0].toArray 27)
                    generalize (w12r.alloc (.cells [.slice none 0 0, .int .u64 0, .slice none 0 0, .slice none 0 0, .int .u64 0, .int .u64 0].toArray 27)) = w13r at hz_w13r sC_w13r hL_w13r sD_w13r sO_w13r ⊢
                    have hSn := Lib.hid (And.intro (hz_w13r.box (B := MB) (C := [.slice ab1 m1.boxes.length cb1, .int .u64 m1.nv, .slice ah1 m1.homes.length ch1, .slice as1 m1.seats.length cs1, .int .u64 m1.ns, .int .u64 m1.sweeps].toArray) (t := 27) 2 rfl).1 hz_w13r.bel)
                    refine hK _ _ hSn ?_
                    clear hK K
                    try simp only [List.getElem_toArray, List.getElem_cons_succ, List.getElem_cons_zero, Act.put, List.setIfInBounds_toArray, List.set_cons_zero, List.set_cons_succ]
                    refine Hd.one (i := 11) rfl (by kernel_rfl) (fun K hK => ?_)
                    have hs1 := hz_w13r.boxSome (C := [.slice none 0 0, .int .u64 0, .slice none 0 0, .slice none 0 0, .int .u64 0, .int .u64 0]) 0 rfl
                    refine wp_store_op rfl 27 (.tmp 13) (.tmp 105) rfl (w12r.heap.size) 0 [.slice ab2 nb2 cb2, .int .u64 m2.nv, .slice ah2 m2.homes.length ch2, .slice as2 m2.seats.length cs2, .int .u64 m2.ns, .int .u64 m2.sweeps] rfl rfl Tryz.sizeOf27 (al_one6 _ _ _ _ _ _ _ _ _ _ _ _) hs1.1 hs1.2 ?_
                    have hz9 := hz_w13r.fillBox (C := [.slice none 0 0, .int .u64 0, .slice none 0 0, .slice none 0 0, .int .u64 0, .int .u64 0]) 0 rfl [.slice ab2 nb2 cb2, .int .u64 m2.nv, .slice ah2 m2.homes.length ch2, .slice as2 m2.seats.length cs2, .int .u64 m2.ns, .int .u64 m2.sweeps] rfl
                    have sC9 := sC_w13r.setL (.head _) [.slice ab2 nb2 cb2, .int .u64 m2.nv, .slice ah2 m2.homes.length ch2, .slice as2 m2.seats.length cs2, .int .u64 m2.ns, .int .u64 m2.sweeps]
                    have sD9 := sD_w13r.setL (.head _) [.slice ab2 nb2 cb2, .int .u64 m2.nv, .slice ah2 m2.homes.length ch2, .slice as2 m2.seats.length cs2, .int .u64 m2.ns, .int .u64 m2.sweeps]
                    have sO9 := sO_w13r.setL (.head _) [.slice ab2 nb2 cb2, .int .u64 m2.nv, .slice ah2 m2.homes.length ch2, .slice as2 m2.seats.length cs2, .int .u64 m2.ns, .int .u64 m2.sweeps]
                    generalize w13r.setCells (w12r.heap.size) 0 [.slice ab2 nb2 cb2, .int .u64 m2.nv, .slice ah2 m2.homes.length ch2, .slice as2 m2.seats.length cs2, .int .u64 m2.ns, .int .u64 m2.sweeps] = w9r at hz9 sC9 sD9 sO9 ⊢
                    have hSn := Lib.hid (And.intro (hz9.box (B := MB) (C := [.slice ab1 m1.boxes.length cb1, .int .u64 m1.nv, .slice ah1 m1.homes.length ch1, .slice as1 m1.seats.length cs1, .int .u64 m1.ns, .int .u64 m1.sweeps].toArray) (t := 27) 2 rfl).1 hz9.bel)
                    refine hK _ _ hSn ?_
                    clear hK K
                    try simp only [List.getElem_toArray, List.getElem_cons_succ, List.getElem_cons_zero, Act.put, List.setIfInBounds_toArray, List.set_cons_zero, List.set_cons_succ]
                    refine Hd.done (by kernel_rfl) ?_
                    simp only [List.drop_succ_cons, List.drop_zero]
                    have hs2 := hz9.boxSome (C := [.int .i64 0, .int .u64 0, .int .u64 0, .slice none 0 0, .slice none 0 0]) 1 rfl
                    refine wpList_store_cells rfl 35 (.tmp 14) (.tmp 106) rfl (Wd.heap.size) 0 [.int .i64 o2.code, .int .u64 o2.session, .int .u64 o2.validity, .slice aU2 o2.uids.length cU2, .slice aM2 o2.mods.length cM2] rfl rfl Tryz.sizeOf35 (al_one5 _ _ _ _ _ _ _) hs2.1 hs2.2 ?_
                    have hzA := hz9.fillBox (C := [.int .i64 0, .int .u64 0, .int .u64 0, .slice none 0 0, .slice none 0 0]) 1 rfl [.int .i64 o2.code, .int .u64 o2.session, .int .u64 o2.validity, .slice aU2 o2.uids.length cU2, .slice aM2 o2.mods.length cM2] rfl
                    have sCA := sC9.setL (.tail _ (.head _)) [.int .i64 o2.code, .int .u64 o2.session, .int .u64 o2.validity, .slice aU2 o2.uids.length cU2, .slice aM2 o2.mods.length cM2]
                    have sDA := sD9.setL (.tail _ (.head _)) [.int .i64 o2.code, .int .u64 o2.session, .int .u64 o2.validity, .slice aU2 o2.uids.length cU2, .slice aM2 o2.mods.length cM2]
                    have sOA := sO9.setL (.tail _ (.head _)) [.int .i64 o2.code, .int .u64 o2.session, .int .u64 o2.validity, .slice aU2 o2.uids.length cU2, .slice aM2 o2.mods.length cM2]
                    generalize w9r.setCells (Wd.heap.size) 0 [.int .i64 o2.code, .int .u64 o2.session, .int .u64 o2.validity, .slice aU2 o2.uids.length cU2, .slice aM2 o2.mods.length cM2] = wAr at hzA sCA sDA sOA ⊢
                    have hrel : Hid (ApN W MB (w12r.heap.size) (Wd.heap.size) B n' F' m1 m2 o2 wAr) := Lib.hid ⟨_, _, _, hzA.swap, sCA.lessL (mem4 (.tail _ (.tail _ (.head _))) (.head _) (.tail _ (.head _)) (.tail _ (.tail _ (.tail _ (.head _))))), sDA.lessL (mem4 (.tail _ (.tail _ (.head _))) (.head _) (.tail _ (.head _)) (.tail _ (.tail _ (.tail _ (.head _))))), sOA.lessL (mem4 (.tail _ (.tail _ (.head _))) (.head _) (.tail _ (.head _)) (.tail _ (.tail _ (.tail _ (.head _)))))⟩
                    clear hs1 hs2 hz9 sC9 sD9 sO9 hzA sCA sDA sOA
                    go_wp2_with fail
                    go_meet
                    case rel => exact ⟨w12r.heap.size, Wd.heap.size, rfl, rfl, hrel⟩
                  · go_simp
                    have hz_w14r := hz_w11r.newBox [.slice none 0 0, .int .u64 0, .slice none 0 0, .slice none 0 0, .int .u64 0, .int .u64 0].toArray 27
                    have sC_w14r := sC_w11r.allocL (.cells [.slice none 0 0, .int .u64 0, .slice none 0 0, .slice none 0 0, .int .u64 0, .int .u64 0].toArray 27)
                    have hL_w14r := ltL_alloc hL_w11r (.cells [.slice none 0 0, .int .u64 0, .slice none 0 0, .slice none 0 0, .int .u64 0, .int .u64 0].toArray 27)
                    generalize (w11r.alloc (.cells [.slice none 0 0, .int .u64 0, .slice none 0 0, .slice none 0 0, .int .u64 0, .int .u64 0].toArray 27)) = w14r at hz_w14r sC_w14r hL_w14r ⊢
                    have hSn := Lib.hid (And.intro (hz_w14r.box (B := MB) (C := [.slice ab1 m1.boxes.length cb1, .int .u64 m1.nv, .slice ah1 m1.homes.length ch1, .slice as1 m1.seats.length cs1, .int .u64 m1.ns, .int .u64 m1.sweeps].toArray) (t := 27) 2 rfl).1 hz_w14r.bel)
                    refine hK _ _ hSn ?_
                    clear hK K
                    try simp only [List.getElem_toArray, List.getElem_cons_succ, List.getElem_cons_zero, Act.put, List.setIfInBounds_toArray, List.set_cons_zero, List.set_cons_succ]
                    refine Hd.one (i := 5) rfl (by kernel_rfl) (fun K hK => ?_)
                    go_simp
                    refine (apply_any _ sC_w14r.now hr1.out.ap (hqi.out w14r hz_w14r.bel) hqo.out).mono ?_
                    rw [hap.out]
                    rintro e w15r ⟨vD, oD, rfl, hvD, hoD, hb_w15r⟩
                    dsimp only
                    obtain ⟨ab2, cb2, nb2, ah2, ch2, as2, cs2, rfl⟩ := hvD.out.now.out_
                    obtain ⟨aU2, cU2, aM2, cM2, rfl⟩ := hoD.out.now.out_
                    have hz_w15r := hz_w14r.below hb_w15r.out
                    have sC_w15r := sC_w14r.below hb_w15r.out
                    have sD_w15r := hvD.out.okL hL_w14r
                    have sO_w15r := hoD.out.okL hL_w14r
                    have hL_w15r := ltL_below hL_w14r hb_w15r.out.size
                    clear hvD hoD
                    have hSn := Lib.hid (And.intro (hz_w15r.box (B := MB) (C := [.slice ab1 m1.boxes.length cb1, .int .u64 m1.nv, .slice ah1 m1.homes.length ch1, .slice as1 m1.seats.length cs1, .int .u64 m1.ns, .int .u64 m1.sweeps].toArray) (t := 27) 2 rfl).1 hz_w15r.bel)
                    refine hK _ _ hSn ?_
                    clear hK K
                    try simp only [List.getElem_toArray, List.getElem_cons_succ, List.getElem_cons_zero, Act.put, List.setIfInBounds_toArray, List.set_cons_zero, List.set_cons_succ]
                    refine Hd.take (i := 6) (v := ?tv646) hok rfl (by kernel_rfl) (fun _ _ _ h => h) (Or.inl ⟨by rfl, ?ty646⟩) (by assumption) ?tr646
                    case ty646 => (intro w hSw; (try dsimp only at hSw); go_simp; (try with_reducible rfl))
                    try simp only [List.getElem_toArray, List.getElem_cons_succ, List.getElem_cons_zero, Act.put, List.setIfInBounds_toArray, List.set_cons_zero, List.set_cons_succ]
                    refine Hd.take (i := 7) (v := ?tv647) hok rfl (by kernel_rfl) (fun _ _ _ h => h) (Or.inl ⟨by rfl, ?ty647⟩) (by assumption) ?tr647
                    case ty647 => (intro w hSw; (try dsimp only at hSw); go_simp; (try with_reducible rfl))
                    try simp only [List.getElem_toArray, List.getElem_cons_succ, List.getElem_cons_zero, Act.put, List.setIfInBounds_toArray, List.set_cons_zero, List.set_cons_succ]
                    refine Hd.take (i := 8) (v := ?tv648) hok rfl (by kernel_rfl) (fun _ _ _ h => h) (Or.inl ⟨by rfl, ?ty648⟩) (by assumption) ?tr648
                    case ty648 => (intro w hSw; (try dsimp only at hSw); go_simp; (try with_reducible rfl))
                    try simp only [List.getElem_toArray, List.getElem_cons_succ, List.getElem_cons_zero, Act.put, List.setIfInBounds_toArray, List.set_cons_zero, List.set_cons_succ]
                    refine Hd.one (i := 11) rfl (by kernel_rfl) (fun K hK => ?_)
                    have hs1 := hz_w15r.boxSome (C := [.slice none 0 0, .int .u64 0, .slice none 0 0, .slice none 0 0, .int .u64 0, .int .u64 0]) 0 rfl
                    refine wp_store_op rfl 27 (.tmp 13) (.tmp 105) rfl (w11r.heap.size) 0 [.slice ab2 nb2 cb2, .int .u64 m2.nv, .slice ah2 m2.homes.length ch2, .slice as2 m2.seats.length cs2, .int .u64 m2.ns, .int .u64 m2.sweeps] rfl rfl Tryz.sizeOf27 (al_one6 _ _ _ _ _ _ _ _ _ _ _ _) hs1.1 hs1.2 ?_
                    have hz9 := hz_w15r.fillBox (C := [.slice none 0 0, .int .u64 0, .slice none 0 0, .slice none 0 0, .int .u64 0, .int .u64 0]) 0 rfl [.slice ab2 nb2 cb2, .int .u64 m2.nv, .slice ah2 m2.homes.length ch2, .slice as2 m2.seats.length cs2, .int .u64 m2.ns, .int .u64 m2.sweeps] rfl
                    have sC9 := sC_w15r.setL (.head _) [.slice ab2 nb2 cb2, .int .u64 m2.nv, .slice ah2 m2.homes.length ch2, .slice as2 m2.seats.length cs2, .int .u64 m2.ns, .int .u64 m2.sweeps]
                    have sD9 := sD_w15r.setL (.head _) [.slice ab2 nb2 cb2, .int .u64 m2.nv, .slice ah2 m2.homes.length ch2, .slice as2 m2.seats.length cs2, .int .u64 m2.ns, .int .u64 m2.sweeps]
                    have sO9 := sO_w15r.setL (.head _) [.slice ab2 nb2 cb2, .int .u64 m2.nv, .slice ah2 m2.homes.length ch2, .slice as2 m2.seats.length cs2, .int .u64 m2.ns, .int .u64 m2.sweeps]
                    generalize w15r.setCells (w11r.heap.size) 0 [.slice ab2 nb2 cb2, .int .u64 m2.nv, .slice ah2 m2.homes.length ch2, .slice as2 m2.seats.length cs2, .int .u64 m2.ns, .int .u64 m2.sweeps] = w9r at hz9 sC9 sD9 sO9 ⊢
                    have hSn := Lib.hid (And.intro (hz9.box (B := MB) (C := [.slice ab1 m1.boxes.length cb1, .int .u64 m1.nv, .slice ah1 m1.homes.length ch1, .slice as1 m1.seats.length cs1, .int .u64 m1.ns, .int .u64 m1.sweeps].toArray) (t := 27) 2 rfl).1 hz9.bel)
                    refine hK _ _ hSn ?_
                    clear hK K
                    try simp only [List.getElem_toArray, List.getElem_cons_succ, List.getElem_cons_zero, Act.put, List.setIfInBounds_toArray, List.set_cons_zero, List.set_cons_succ]
                    refine Hd.done (by kernel_rfl) ?_
                    simp only [List.drop_succ_cons, List.drop_zero]
                    have hs2 := hz9.boxSome (C := [.int .i64 0, .int .u64 0, .int .u64 0, .slice none 0 0, .slice none 0 0]) 1 rfl
                    refine wpList_store_cells rfl 35 (.tmp 14) (.tmp 106) rfl (Wd.heap.size) 0 [.int .i64 o2.code, .int .u64 o2.session, .int .u64 o2.validity, .slice aU2 o2.uids.length cU2, .slice aM2 o2.mods.length cM2] rfl rfl Tryz.sizeOf35 (al_one5 _ _ _ _ _ _ _) hs2.1 hs2.2 ?_
                    have hzA := hz9.fillBox (C := [.int .i64 0, .int .u64 0, .int .u64 0, .slice none 0 0, .slice none 0 0]) 1 rfl [.int .i64 o2.code, .int .u64 o2.session, .int .u64 o2.validity, .slice aU2 o2.uids.length cU2, .slice aM2 o2.mods.length cM2] rfl
                    have sCA := sC9.setL (.tail _ (.head _)) [.int .i64 o2.code, .int .u64 o2.session, .int .u64 o2.validity, .slice aU2 o2.uids.length cU2, .slice aM2 o2.mods.length cM2]
                    have sDA := sD9.setL (.tail _ (.head _)) [.int .i64 o2.code, .int .u64 o2.session, .int .u64 o2.validity, .slice aU2 o2.uids.length cU2, .slice aM2 o2.mods.length cM2]
                    have sOA := sO9.setL (.tail _ (.head _)) [.int .i64 o2.code, .int .u64 o2.session, .int .u64 o2.validity, .slice aU2 o2.uids.length cU2, .slice aM2 o2.mods.length cM2]
                    generalize w9r.setCells (Wd.heap.size) 0 [.int .i64 o2.code, .int .u64 o2.session, .int .u64 o2.validity, .slice aU2 o2.uids.length cU2, .slice aM2 o2.mods.length cM2] = wAr at hzA sCA sDA sOA ⊢
                    have hrel : Hid (ApN W MB (w11r.heap.size) (Wd.heap.size) B n' F' m1 m2 o2 wAr) := Lib.hid ⟨_, _, _, hzA.swap, sCA.lessL (mem4 (.tail _ (.tail _ (.head _))) (.head _) (.tail _ (.head _)) (.tail _ (.tail _ (.tail _ (.head _))))), sDA.lessL (mem4 (.tail _ (.tail _ (.head _))) (.head _) (.tail _ (.head _)) (.tail _ (.tail _ (.tail _ (.head _))))), sOA.lessL (mem4 (.tail _ (.tail _ (.head _))) (.head _) (.tail _ (.head _)) (.tail _ (.tail _ (.tail _ (.head _)))))⟩
                    clear hs1 hs2 hz9 sC9 sD9 sO9 hzA sCA sDA sOA
                    go_wp2_with fail
                    go_meet
                    case rel => exact ⟨w11r.heap.size, Wd.heap.size, rfl, rfl, hrel⟩
            case rest =>
            as_aux_lemma =>
              obtain ⟨TB, OB, rfl, rfl, hA⟩ := hcut
              generalize wc = w6 at *
              clear hzd sC0 hL0 hSn
              obtain ⟨C1, D1, O1, hz, sC, sD, sO⟩ := hA.out
              obtain ⟨ab1, cb1, nb1, ah1, ch1, as1, cs1, rfl⟩ := sC.now.shape
              obtain ⟨ab2, cb2, nb2, ah2, ch2, as2, cs2, rfl⟩ := sD.now.shape
              obtain ⟨hbM, -⟩ := hz.box (B := MB) (C := [.slice ab1 nb1 cb1, .int .u64 m1.nv, .slice ah1 m1.homes.length ch1, .slice as1 m1.seats.length cs1, .int .u64 m1.ns, .int .u64 m1.sweeps].toArray) (t := 27) 2 rfl
              obtain ⟨hbT, -⟩ := hz.box (B := TB) (C := [.slice ab2 nb2 cb2, .int .u64 m2.nv, .slice ah2 m2.homes.length ch2, .slice as2 m2.seats.length cs2, .int .u64 m2.ns, .int .u64 m2.sweeps].toArray) (t := 27) 1 rfl
              have x1 : w6.cell? ⟨MB, 1, none⟩ = some (.int .u64 m1.nv) := box_cell hbM 1
              have x4 : w6.cell? ⟨MB, 4, none⟩ = some (.int .u64 m1.ns) := box_cell hbM 4
              have y1 : w6.cell? ⟨TB, 1, none⟩ = some (.int .u64 m2.nv) := box_cell hbT 1
              have y4 : w6.cell? ⟨TB, 4, none⟩ = some (.int .u64 m2.ns) := box_cell hbT 4
              have hsz := Lib.hid hr2.out.sized
              clear hz sC sD sO hbM hbT
              go_wp2_with fail
              clear x1 x4 y1 y4 tn1 tn2 tn3 tn4
              go_loopw [15] (fun v15 wr => ∃ k : Nat, v15 = .int .i64 k ∧ k ≤ m1.boxes.length ∧ Hid (ApN W MB TB OB B n' F' m1 m2 o2 wr)) (fun v15 _ => m1.boxes.length - (intOf v15).toNat)
              case atStart => exact ⟨0, rfl, Nat.zero_le _, hA⟩
              case round =>
                clear hA
                obtain ⟨k, rfl, hk, hA⟩ := hrel
                obtain ⟨C1, D1, O1, hz, sC, sD, sO⟩ := hA.out
                obtain ⟨ab1, cb1, nb1, ah1, ch1, as1, cs1, rfl⟩ := sC.now.shape
                obtain ⟨ab2, cb2, nb2, ah2, ch2, as2, cs2, rfl⟩ := sD.now.shape
                obtain rfl := sC.now.nb
                obtain ⟨hbM, -⟩ := hz.box (B := MB) (C := [.slice ab1 m1.boxes.length cb1, .int .u64 m1.nv, .slice ah1 m1.homes.length ch1, .slice as1 m1.seats.length cs1, .int .u64 m1.ns, .int .u64 m1.sweeps].toArray) (t := 27) 2 rfl
                have x0 : wr.cell? ⟨MB, 0, none⟩ = some (.slice ab1 m1.boxes.length cb1) := box_cell hbM 0
                by_cases hlk : k < m1.boxes.length
                · obtain ⟨xb, xo, z, e, hzb, hrow⟩ := sC.now.box_at hlk
                  subst e
                  obtain ⟨⟨d0, d1, d2, d3, d4⟩, -⟩ := hrow wr (Below.refl _ _)
                  have hk0 : (0 : Int) ≤ (k : Int) := by omega
                  have hk1 : (k : Int) < (m1.boxes.length : Int) := by omega
                  have hmem : Hid (z.b ∈ m1.boxes) := Lib.hid (by rw [hzb]; exact List.getElem_mem hlk)
                  as_aux_lemma =>
                    go_upto_region 29 with fail
                    have hz2 := hz.newBox [.string z.name, .int .u64 z.validity, .int .u64 z.next, .int .u64 z.high, .slice z.a z.rows.length z.c].toArray 48
                    have hba : Below wr.heap.size wr (wr.alloc (.cells [.string z.name, .int .u64 z.validity, .int .u64 z.next, .int .u64 z.high, .slice z.a z.rows.length z.c].toArray 48)) := (Below.refl _ _).alloc (Nat.le_refl _) _
                    change Code.wp _ _ _ _ (wr.alloc (.cells [.string z.name, .int .u64 z.validity, .int .u64 z.next, .int .u64 z.high, .slice z.a z.rows.length z.c].toArray 48))
                    have hA2 := Lib.hid (hA.out.below hba)
                    have hsD2 := Lib.hid (sD.below hba).now
                    obtain ⟨hbT, -⟩ := hz2.box (B := TB) (C := [.slice ab2 nb2 cb2, .int .u64 m2.nv, .slice ah2 m2.homes.length ch2, .slice as2 m2.seats.length cs2, .int .u64 m2.ns, .int .u64 m2.sweeps].toArray) (t := 27) 2 rfl
                    obtain ⟨hbA, -⟩ := hz2.box (B := wr.heap.size) (C := [.string z.name, .int .u64 z.validity, .int .u64 z.next, .int .u64 z.high, .slice z.a z.rows.length z.c].toArray) (t := 48) 0 rfl
                    clear x0 d0 d1 d2 d3 d4 hbM hz sC sD sO hrow hzb hA hz2
                    generalize (wr.alloc (.cells [.string z.name, .int .u64 z.validity, .int .u64 z.next, .int .u64 z.high, .slice z.a z.rows.length z.c].toArray 48)) = w7 at hbT hbA hA2 hsD2 ⊢
                    clear hba
                    generalize wr.heap.size = AB at hbA ⊢
                    have y0 : w7.cell? ⟨TB, 0, none⟩ = some (.slice ab2 nb2 cb2) := box_cell hbT 0
                    have y1 : w7.cell? ⟨TB, 1, none⟩ = some (.int .u64 m2.nv) := box_cell hbT 1
                    have y2 : w7.cell? ⟨TB, 2, none⟩ = some (.slice ah2 m2.homes.length ch2) := box_cell hbT 2
                    have y3 : w7.cell? ⟨TB, 3, none⟩ = some (.slice as2 m2.seats.length cs2) := box_cell hbT 3
                    have y4 : w7.cell? ⟨TB, 4, none⟩ = some (.int .u64 m2.ns) := box_cell hbT 4
                    have y5 : w7.cell? ⟨TB, 5, none⟩ = some (.int .u64 m2.sweeps) := box_cell hbT 5
                    have a0 : w7.cell? ⟨AB, 0, none⟩ = some (.string z.name) := box_cell hbA 0
                    have hbA' : Hid (∀ w', Below w7.heap.size w7 w' → w'.heap[AB]? = some (.cells [.string z.name, .int .u64 z.validity, .int .u64 z.next, .int .u64 z.high, .slice z.a z.rows.length z.c].toArray 48 (0, 0))) := Lib.hid (fun w' h => bel_heap h hbA)
                    clear hbT hbA
                    go_wp2_with fail
                    refine (findS_any _ m2 w7 hsD2.out hsz.out z.name).mono ?_
                    rintro e w8 ⟨zf, rfl, hzf, hlf, hb8⟩
                    unfold bxAgg bxCells BxV.v
                    dsimp only
                    clear y0 y1 y2 y3 y4 y5 a0 hlf hsD2
                    go_upto_region 30 with fail
                    have hzn := (Zoo.nil w8).newBox [.string zf.name, .int .u64 zf.validity, .int .u64 zf.next, .int .u64 zf.high, .slice zf.a zf.rows.length zf.c].toArray 48
                    have hbn : Below w8.heap.size w8 (w8.alloc (.cells [.string zf.name, .int .u64 zf.validity, .int .u64 zf.next, .int .u64 zf.high, .slice zf.a zf.rows.length zf.c].toArray 48)) := (Below.refl _ _).alloc (Nat.le_refl _) _
                    change Code.wp _ _ _ _ (w8.alloc (.cells [.string zf.name, .int .u64 zf.validity, .int .u64 zf.next, .int .u64 zf.high, .slice zf.a zf.rows.length zf.c].toArray 48))
                    obtain ⟨hbF, -⟩ := hzn.box 0 rfl
                    have hA3 := Lib.hid ((hA2.out.below hb8.out).below hbn)
                    have hbA2 := hbA'.out _ (hb8.out.trans (hbn.mono hb8.out.size))
                    clear hzn hA2 hbn hb8 hbA'
                    generalize (w8.alloc (.cells [.string zf.name, .int .u64 zf.validity, .int .u64 zf.next, .int .u64 zf.high, .slice zf.a zf.rows.length zf.c].toArray 48)) = w9 at hbF hA3 hbA2 ⊢
                    generalize w8.heap.size = FB at hbF ⊢
                    have f1 : w9.cell? ⟨FB, 1, none⟩ = some (.int .u64 zf.validity) := box_cell hbF 1
                    have f2 : w9.cell? ⟨FB, 2, none⟩ = some (.int .u64 zf.next) := box_cell hbF 2
                    have f3 : w9.cell? ⟨FB, 3, none⟩ = some (.int .u64 zf.high) := box_cell hbF 3
                    have a1 : w9.cell? ⟨AB, 1, none⟩ = some (.int .u64 z.validity) := box_cell hbA2 1
                    have a2 : w9.cell? ⟨AB, 2, none⟩ = some (.int .u64 z.next) := box_cell hbA2 2
                    have a3 : w9.cell? ⟨AB, 3, none⟩ = some (.int .u64 z.high) := box_cell hbA2 3
                    clear hbF hbA2
                    cases hfm : findM m2 z.name with
                    | none =>
                      dsimp only [Option.isSome]
                      clear hzf hfm hmem
                      go_wp2_with fail
                      go_roundw
                      case rel => exact ⟨k + 1, by go_num, by omega, hA3⟩
                      case measure => simp [intOf] <;> omega
                    | some tt =>
                      have hzt := hzf.out
                      rw [hfm] at hzt
                      have hzt : zf.b = tt := hzt
                      obtain ⟨e1, e2, e3⟩ := hold.out z.b tt hmem.out hfm
                      rw [← hzt] at e1 e2 e3
                      have e1 : zf.validity = z.validity := e1
                      have e2 : z.next ≤ zf.next := e2
                      have e3 : z.high ≤ zf.high := e3
                      have t1 : ((z.validity : Int) == (z.validity : Int)) = true := by simp
                      have t2 : ((z.validity : Int) != (z.validity : Int)) = false := by simp
                      have t3 : ¬ (zf.next : Int) < (z.next : Int) := by omega
                      have t4 : decide ((zf.next : Int) < (z.next : Int)) = false := decide_eq_false t3
                      have t5 : ¬ (zf.high : Int) < (z.high : Int) := by omega
                      have t6 : decide ((zf.high : Int) < (z.high : Int)) = false := decide_eq_false t5
                      rw [e1] at f1
                      dsimp only [Option.isSome]
                      clear hzf hfm hmem hzt e1 e2 e3
                      go_wp2_with fail
                      go_roundw
                      case rel => exact ⟨k + 1, by go_num, by omega, hA3⟩
                      case measure => simp [intOf] <;> omega
                · obtain rfl : k = m1.boxes.length := by omega
                  clear hsz
                  obtain ⟨hbO, -⟩ := hz.box (B := OB) (C := O1.toArray) (t := 35) 0 rfl
                  obtain ⟨aU2, cU2, aM2, cM2, rfl, hou⟩ := sO.now.shape
                  have o0 : wr.cell? ⟨OB, 0, none⟩ = some (.int .i64 o2.code) := box_cell hbO 0
                  have c0 : wr.cell? ⟨b, bo + i * 17, none⟩ = some (.int .i64 q.op) := hc.out wr hz.bel 0 _ rfl
                  clear hbO hbM hz sC sD sO
                  cases hop : ((q.op : Int) == (6 : Int)) with
                  | false =>
                    as_aux_lemma =>
                      go_upto_region 36 with fail
                      clear x0 o0 c0 hou hop
                      obtain ⟨C1, D1, O1, hz, sC, sD, sO⟩ := hA.out
                      obtain ⟨ab1, cb1, nb1, ah1, ch1, as1, cs1, rfl⟩ := sC.now.shape
                      obtain ⟨ab2, cb2, nb2, ah2, ch2, as2, cs2, rfl⟩ := sD.now.shape
                      obtain ⟨hbM, -⟩ := hz.box (B := MB) (C := [.slice ab1 nb1 cb1, .int .u64 m1.nv, .slice ah1 m1.homes.length ch1, .slice as1 m1.seats.length cs1, .int .u64 m1.ns, .int .u64 m1.sweeps].toArray) (t := 27) 2 rfl
                      obtain ⟨hbT, -⟩ := hz.box (B := TB) (C := [.slice ab2 nb2 cb2, .int .u64 m2.nv, .slice ah2 m2.homes.length ch2, .slice as2 m2.seats.length cs2, .int .u64 m2.ns, .int .u64 m2.sweeps].toArray) (t := 27) 1 rfl
                      have z0 : wr.cell? ⟨TB, 0, none⟩ = some (.slice ab2 nb2 cb2) := box_cell hbT 0
                      have z1 : wr.cell? ⟨TB, 1, none⟩ = some (.int .u64 m2.nv) := box_cell hbT 1
                      have z2 : wr.cell? ⟨TB, 2, none⟩ = some (.slice ah2 m2.homes.length ch2) := box_cell hbT 2
                      have z3 : wr.cell? ⟨TB, 3, none⟩ = some (.slice as2 m2.seats.length cs2) := box_cell hbT 3
                      have z4 : wr.cell? ⟨TB, 4, none⟩ = some (.int .u64 m2.ns) := box_cell hbT 4
                      have z5 : wr.cell? ⟨TB, 5, none⟩ = some (.int .u64 m2.sweeps) := box_cell hbT 5
                      have x0 : wr.cell? ⟨MB, 0, none⟩ = some (.slice ab1 nb1 cb1) := box_cell hbM 0
                      have fx0 : wr.frozen? ⟨MB, 0, none⟩ = false := box_free hbM 0
                      have x1 : wr.cell? ⟨MB, 1, none⟩ = some (.int .u64 m1.nv) := box_cell hbM 1
                      have fx1 : wr.frozen? ⟨MB, 1, none⟩ = false := box_free hbM 1
                      have x2 : wr.cell? ⟨MB, 2, none⟩ = some (.slice ah1 m1.homes.length ch1) := box_cell hbM 2
                      have fx2 : wr.frozen? ⟨MB, 2, none⟩ = false := box_free hbM 2
                      have x3 : wr.cell? ⟨MB, 3, none⟩ = some (.slice as1 m1.seats.length cs1) := box_cell hbM 3
                      have fx3 : wr.frozen? ⟨MB, 3, none⟩ = false := box_free hbM 3
                      have x4 : wr.cell? ⟨MB, 4, none⟩ = some (.int .u64 m1.ns) := box_cell hbM 4
                      have fx4 : wr.frozen? ⟨MB, 4, none⟩ = false := box_free hbM 4
                      have x5 : wr.cell? ⟨MB, 5, none⟩ = some (.int .u64 m1.sweeps) := box_cell hbM 5
                      have fx5 : wr.frozen? ⟨MB, 5, none⟩ = false := box_free hbM 5
                      have hzF := ((hz.fillBox (B := MB) (C := [.slice ab1 nb1 cb1, .int .u64 m1.nv, .slice ah1 m1.homes.length ch1, .slice as1 m1.seats.length cs1, .int .u64 m1.ns, .int .u64 m1.sweeps]) (t := 27) 2 rfl [.slice ab2 nb2 cb2, .int .u64 m2.nv, .slice ah2 m2.homes.length ch2, .slice as2 m2.seats.length cs2, .int .u64 m2.ns, .int .u64 m2.sweeps] rfl).sub (L' := [boxT MB [.slice ab2 nb2 cb2, .int .u64 m2.nv, .slice ah2 m2.homes.length ch2, .slice as2 m2.seats.length cs2, .int .u64 m2.ns, .int .u64 m2.sweeps].toArray 27, mapT B n' F']) (List.Sublist.cons _ (List.Sublist.cons _ (List.Sublist.refl _))))
                      have hsF := ((sD.setL (B := MB) (.head _) [.slice ab2 nb2 cb2, .int .u64 m2.nv, .slice ah2 m2.homes.length ch2, .slice as2 m2.seats.length cs2, .int .u64 m2.ns, .int .u64 m2.sweeps]).lessL (L' := [MB, B]) (fun x hx => by simp only [List.mem_cons, List.not_mem_nil, or_false] at hx ⊢; rcases hx with rfl | rfl <;> simp))
                      have hHF : HoldsN W MB B n' F' m2 (wr.setCells MB 0 [.slice ab2 nb2 cb2, .int .u64 m2.nv, .slice ah2 m2.homes.length ch2, .slice as2 m2.seats.length cs2, .int .u64 m2.ns, .int .u64 m2.sweeps]) := ⟨_, hzF, hsF⟩
                      simp only [World.setCells, Nat.zero_add] at hHF
                      replace hHF := Lib.hid hHF
                      clear hzF hsF hz sC sD sO hbM hbT hA
                      go_upto_region 7 with fail
                      clear x0 x1 x2 x3 x4 x5 fx0 fx1 fx2 fx3 fx4 fx5 z0 z1 z2 z3 z4 z5 hlk hk hile hile2
                      go_wp2_with fail
                      go_roundw
                      case rel => exact ⟨i + 1, n', m2, F', by go_num, by omega, hr2, hno2, hn5, hHF⟩
                      case measure => simp [intOf] <;> omega
                  | true =>
                    cases hcd : ((o2.code : Int) == (0 : Int)) with
                    | false =>
                      as_aux_lemma =>
                        go_upto_region 36 with fail
                        clear x0 o0 c0 hou hop hcd
                        obtain ⟨C1, D1, O1, hz, sC, sD, sO⟩ := hA.out
                        obtain ⟨ab1, cb1, nb1, ah1, ch1, as1, cs1, rfl⟩ := sC.now.shape
                        obtain ⟨ab2, cb2, nb2, ah2, ch2, as2, cs2, rfl⟩ := sD.now.shape
                        obtain ⟨hbM, -⟩ := hz.box (B := MB) (C := [.slice ab1 nb1 cb1, .int .u64 m1.nv, .slice ah1 m1.homes.length ch1, .slice as1 m1.seats.length cs1, .int .u64 m1.ns, .int .u64 m1.sweeps].toArray) (t := 27) 2 rfl
                        obtain ⟨hbT, -⟩ := hz.box (B := TB) (C := [.slice ab2 nb2 cb2, .int .u64 m2.nv, .slice ah2 m2.homes.length ch2, .slice as2 m2.seats.length cs2, .int .u64 m2.ns, .int .u64 m2.sweeps].toArray) (t := 27) 1 rfl
                        have z0 : wr.cell? ⟨TB, 0, none⟩ = some (.slice ab2 nb2 cb2) := box_cell hbT 0
                        have z1 : wr.cell? ⟨TB, 1, none⟩ = some (.int .u64 m2.nv) := box_cell hbT 1
                        have z2 : wr.cell? ⟨TB, 2, none⟩ = some (.slice ah2 m2.homes.length ch2) := box_cell hbT 2
                        have z3 : wr.cell? ⟨TB, 3, none⟩ = some (.slice as2 m2.seats.length cs2) := box_cell hbT 3
                        have z4 : wr.cell? ⟨TB, 4, none⟩ = some (.int .u64 m2.ns) := box_cell hbT 4
                        have z5 : wr.cell? ⟨TB, 5, none⟩ = some (.int .u64 m2.sweeps) := box_cell hbT 5
                        have x0 : wr.cell? ⟨MB, 0, none⟩ = some (.slice ab1 nb1 cb1) := box_cell hbM 0
                        have fx0 : wr.frozen? ⟨MB, 0, none⟩ = false := box_free hbM 0
                        have x1 : wr.cell? ⟨MB, 1, none⟩ = some (.int .u64 m1.nv) := box_cell hbM 1
                        have fx1 : wr.frozen? ⟨MB, 1, none⟩ = false := box_free hbM 1
                        have x2 : wr.cell? ⟨MB, 2, none⟩ = some (.slice ah1 m1.homes.length ch1) := box_cell hbM 2
                        have fx2 : wr.frozen? ⟨MB, 2, none⟩ = false := box_free hbM 2
                        have x3 : wr.cell? ⟨MB, 3, none⟩ = some (.slice as1 m1.seats.length cs1) := box_cell hbM 3
                        have fx3 : wr.frozen? ⟨MB, 3, none⟩ = false := box_free hbM 3
                        have x4 : wr.cell? ⟨MB, 4, none⟩ = some (.int .u64 m1.ns) := box_cell hbM 4
                        have fx4 : wr.frozen? ⟨MB, 4, none⟩ = false := box_free hbM 4
                        have x5 : wr.cell? ⟨MB, 5, none⟩ = some (.int .u64 m1.sweeps) := box_cell hbM 5
                        have fx5 : wr.frozen? ⟨MB, 5, none⟩ = false := box_free hbM 5
                        have hzF := ((hz.fillBox (B := MB) (C := [.slice ab1 nb1 cb1, .int .u64 m1.nv, .slice ah1 m1.homes.length ch1, .slice as1 m1.seats.length cs1, .int .u64 m1.ns, .int .u64 m1.sweeps]) (t := 27) 2 rfl [.slice ab2 nb2 cb2, .int .u64 m2.nv, .slice ah2 m2.homes.length ch2, .slice as2 m2.seats.length cs2, .int .u64 m2.ns, .int .u64 m2.sweeps] rfl).sub (L' := [boxT MB [.slice ab2 nb2 cb2, .int .u64 m2.nv, .slice ah2 m2.homes.length ch2, .slice as2 m2.seats.length cs2, .int .u64 m2.ns, .int .u64 m2.sweeps].toArray 27, mapT B n' F']) (List.Sublist.cons _ (List.Sublist.cons _ (List.Sublist.refl _))))
                        have hsF := ((sD.setL (B := MB) (.head _) [.slice ab2 nb2 cb2, .int .u64 m2.nv, .slice ah2 m2.homes.length ch2, .slice as2 m2.seats.length cs2, .int .u64 m2.ns, .int .u64 m2.sweeps]).lessL (L' := [MB, B]) (fun x hx => by simp only [List.mem_cons, List.not_mem_nil, or_false] at hx ⊢; rcases hx with rfl | rfl <;> simp))
                        have hHF : HoldsN W MB B n' F' m2 (wr.setCells MB 0 [.slice ab2 nb2 cb2, .int .u64 m2.nv, .slice ah2 m2.homes.length ch2, .slice as2 m2.seats.length cs2, .int .u64 m2.ns, .int .u64 m2.sweeps]) := ⟨_, hzF, hsF⟩
                        simp only [World.setCells, Nat.zero_add] at hHF
                        replace hHF := Lib.hid hHF
                        clear hzF hsF hz sC sD sO hbM hbT hA
                        go_upto_region 7 with fail
                        clear x0 x1 x2 x3 x4 x5 fx0 fx1 fx2 fx3 fx4 fx5 z0 z1 z2 z3 z4 z5 hlk hk hile hile2
                        go_wp2_with fail
                        go_roundw
                        case rel => exact ⟨i + 1, n', m2, F', by go_num, by omega, hr2, hno2, hn5, hHF⟩
                        case measure => simp [intOf] <;> omega
                    | true =>
                      as_aux_lemma =>
                        go_upto_region 33 with fail
                        clear x0 o0 c0 hou
                        obtain ⟨bx, hbm, hfi, hui⟩ := happ.out (eq_of_beq hop) (eq_of_beq hcd)
                        replace hbm := Lib.hid hbm
                        replace hfi := Lib.hid hfi
                        replace hui := Lib.hid hui
                        obtain ⟨C1, D1, O1, hz, sC, sD, sO⟩ := hA.out
                        obtain ⟨ab1, cb1, nb1, ah1, ch1, as1, cs1, rfl⟩ := sC.now.shape
                        obtain ⟨hbM, -⟩ := hz.box (B := MB) (C := [.slice ab1 nb1 cb1, .int .u64 m1.nv, .slice ah1 m1.homes.length ch1, .slice as1 m1.seats.length cs1, .int .u64 m1.ns, .int .u64 m1.sweeps].toArray) (t := 27) 2 rfl
                        have hcl : Hid (∀ w', Below wr.heap.size wr w' → w'.cell? ⟨MB, 0, none⟩ = some (.slice ab1 nb1 cb1) ∧ w'.cell? ⟨MB, 1, none⟩ = some (.int .u64 m1.nv) ∧ w'.cell? ⟨MB, 2, none⟩ = some (.slice ah1 m1.homes.length ch1) ∧ w'.cell? ⟨MB, 3, none⟩ = some (.slice as1 m1.seats.length cs1) ∧ w'.cell? ⟨MB, 4, none⟩ = some (.int .u64 m1.ns) ∧ w'.cell? ⟨MB, 5, none⟩ = some (.int .u64 m1.sweeps) ∧ w'.cell? ⟨b, bo + i * 17 + 6, none⟩ = some (.string q.box)) := Lib.hid (fun w' h => ⟨box_cell (bel_heap h hbM) 0, box_cell (bel_heap h hbM) 1, box_cell (bel_heap h hbM) 2, box_cell (bel_heap h hbM) 3, box_cell (bel_heap h hbM) 4, box_cell (bel_heap h hbM) 5, hc.out w' (hz.below h).bel 6 _ rfl⟩)
                        have hsCl := Lib.hid (fun (w' : World) (h : Below wr.heap.size wr w') => (sC.below h).now)
                        have hbd : Below wr.heap.size wr wr.drew := (Below.refl _ _).drew
                        have hb0 := Below.refl wr.drew.heap.size wr.drew
                        have hsz := Lib.hid hr1.out.sized
                        clear hbM hz sC sD sO hop hcd
                        go_cut [19, 20] (fun v19 v20 wx => ∃ (FB : Nat) (zf : BxV), v19 = .pointer (some ⟨FB, 0, none⟩) ∧ v20 = .bool (findM m1 q.box).isSome ∧ Hid (Fd wr m1 q.box FB zf wx))
                        case first =>
                          as_aux_lemma =>
                            refine wp_region_hd (fun w' => w'.cell? ⟨MB, 0, none⟩ = some (.slice ab1 nb1 cb1) ∧ w'.cell? ⟨MB, 1, none⟩ = some (.int .u64 m1.nv) ∧ w'.cell? ⟨MB, 2, none⟩ = some (.slice ah1 m1.homes.length ch1) ∧ w'.cell? ⟨MB, 3, none⟩ = some (.slice as1 m1.seats.length cs1) ∧ w'.cell? ⟨MB, 4, none⟩ = some (.int .u64 m1.ns) ∧ w'.cell? ⟨MB, 5, none⟩ = some (.int .u64 m1.sweeps) ∧ w'.cell? ⟨b, bo + i * 17 + 6, none⟩ = some (.string q.box)) 12 1 (by kernel_rfl) rfl ⟨by kernel_rfl, by kernel_rfl, by kernel_rfl, by decide⟩ (hcl.out _ hbd) (fun hok hS0 => ?_)
                            generalize wr.drew = Wd at *
                            refine Hd.take (i := 0) (v := ?tv649) hok rfl (by kernel_rfl) (fun _ _ _ h => h) (Or.inl ⟨by rfl, ?ty649⟩) (by assumption) ?tr649
                            case ty649 => (intro w hSw; (try dsimp only at hSw); go_simp; (try with_reducible rfl))
                            try simp only [List.getElem_toArray, List.getElem_cons_succ, List.getElem_cons_zero, Act.put, List.setIfInBounds_toArray, List.set_cons_zero, List.set_cons_succ]
                            refine Hd.take (i := 1) (v := ?tv650) hok rfl (by kernel_rfl) (fun _ _ _ h => h) (Or.inl ⟨by rfl, ?ty650⟩) (by assumption) ?tr650
                            case ty650 => (intro w hSw; (try dsimp only at hSw); go_simp; (try with_reducible rfl))
                            try simp only [List.getElem_toArray, List.getElem_cons_succ, List.getElem_cons_zero, Act.put, List.setIfInBounds_toArray, List.set_cons_zero, List.set_cons_succ]
                            refine Hd.take (i := 2) (v := ?tv651) hok rfl (by kernel_rfl) (fun _ _ _ h => h) (Or.inl ⟨by rfl, ?ty651⟩) (by assumption) ?tr651
                            case ty651 => (intro w hSw; (try dsimp only at hSw); go_simp; (try with_reducible rfl))
                            try simp only [List.getElem_toArray, List.getElem_cons_succ, List.getElem_cons_zero, Act.put, List.setIfInBounds_toArray, List.set_cons_zero, List.set_cons_succ]
                            refine Hd.take (i := 3) (v := ?tv652) hok rfl (by kernel_rfl) (fun _ _ _ h => h) (Or.inl ⟨by rfl, ?ty652⟩) (by assumption) ?tr652
                            case ty652 => (intro w hSw; (try dsimp only at hSw); go_simp; (try with_reducible rfl))
                            try simp only [List.getElem_toArray, List.getElem_cons_succ, List.getElem_cons_zero, Act.put, List.setIfInBounds_toArray, List.set_cons_zero, List.set_cons_succ]
                            refine Hd.take (i := 4) (v := ?tv653) hok rfl (by kernel_rfl) (fun _ _ _ h => h) (Or.inl ⟨by rfl, ?ty653⟩) (by assumption) ?tr653
                            case ty653 => (intro w hSw; (try dsimp only at hSw); go_simp; (try with_reducible rfl))
                            try simp only [List.getElem_toArray, List.getElem_cons_succ, List.getElem_cons_zero, Act.put, List.setIfInBounds_toArray, List.set_cons_zero, List.set_cons_succ]
                            refine Hd.take (i := 5) (v := ?tv654) hok rfl (by kernel_rfl) (fun _ _ _ h => h) (Or.inl ⟨by rfl, ?ty654⟩) (by assumption) ?tr654
                            case ty654 => (intro w hSw; (try dsimp only at hSw); go_simp; (try with_reducible rfl))
                            try simp only [List.getElem_toArray, List.getElem_cons_succ, List.getElem_cons_zero, Act.put, List.setIfInBounds_toArray, List.set_cons_zero, List.set_cons_succ]
                            refine Hd.two (i := 6) (k := 10) rfl rfl (by kernel_rfl) (fun K hK => ?_) (fun K hK => ?_)
                            · go_simp
                              refine (findS_any _ m1 Wd (hsCl.out _ (hbd.trans (hb0.mono (by first | exact hbd.size | exact Nat.le_trans hbd.size hb0.size)))) hsz.out _).mono ?_
                              rintro e wXr ⟨zf, rfl, hzf, hlf, hb_wXr⟩
                              dsimp only
                              have hb2_wXr := hb0.trans (hb_wXr.out.mono hb0.size)
                              have hSn := hcl.out _ (hbd.trans (hb2_wXr.mono hbd.size))
                              refine hK _ _ hSn ?_
                              clear hK K
                              try simp only [List.getElem_toArray, List.getElem_cons_succ, List.getElem_cons_zero, Act.put, List.setIfInBounds_toArray, List.set_cons_zero, List.set_cons_succ]
                              refine Hd.take (i := 7) (v := ?tv655) hok rfl (by kernel_rfl) (fun _ _ _ h => h) (Or.inl ⟨by rfl, ?ty655⟩) (by assumption) ?tr655
                              case ty655 => (intro w hSw; (try dsimp only at hSw); go_simp; (try with_reducible rfl))
                              try simp only [List.getElem_toArray, List.getElem_cons_succ, List.getElem_cons_zero, Act.put, List.setIfInBounds_toArray, List.set_cons_zero, List.set_cons_succ]
                              refine Hd.take (i := 8) (v := ?tv656) hok rfl (by kernel_rfl) (fun _ _ _ h => h) (Or.inl ⟨by rfl, ?ty656⟩) (by assumption) ?tr656
                              case ty656 => (intro w hSw; (try dsimp only at hSw); go_simp; (try with_reducible rfl))
                              try simp only [List.getElem_toArray, List.getElem_cons_succ, List.getElem_cons_zero, Act.put, List.setIfInBounds_toArray, List.set_cons_zero, List.set_cons_succ]
                              refine Hd.take (i := 9) (v := ?tv657) hok rfl (by kernel_rfl) (fun _ _ _ h => h) (Or.inl ⟨by rfl, ?ty657⟩) (by assumption) ?tr657
                              case ty657 => (intro w hSw; (try dsimp only at hSw); go_simp; (try with_reducible rfl))
                              try simp only [List.getElem_toArray, List.getElem_cons_succ, List.getElem_cons_zero, Act.put, List.setIfInBounds_toArray, List.set_cons_zero, List.set_cons_succ]
                              refine Hd.one (i := 10) rfl (by kernel_rfl) (fun K hK => ?_)
                              go_simp
                              have hzn := (Zoo.nil wXr).newBox [.string ⟨#[]⟩, .int .u64 0, .int .u64 0, .int .u64 0, .slice none 0 0].toArray 48
                              have hbn : Below wXr.heap.size wXr _ := (Below.refl _ _).alloc (Nat.le_refl _) (.cells [.string ⟨#[]⟩, .int .u64 0, .int .u64 0, .int .u64 0, .slice none 0 0].toArray 48)
                              have hln := (hlf.out.weak (ok2 := fun k => Wd.heap.size ≤ k ∧ k ≠ wXr.heap.size) (fun k hk h => ⟨h, Nat.ne_of_lt hk⟩)).below hbn
                              have hb3 := hb2_wXr.trans (hbn.mono hb2_wXr.size)
                              have hFle := hb2_wXr.size
                              generalize (wXr.alloc (.cells [.string ⟨#[]⟩, .int .u64 0, .int .u64 0, .int .u64 0, .slice none 0 0].toArray 48)) = wYr at hzn hbn hln hb3 ⊢
                              have hSn := hcl.out _ (hbd.trans (hb3.mono hbd.size))
                              refine hK _ _ hSn ?_
                              clear hK K
                              try simp only [List.getElem_toArray, List.getElem_cons_succ, List.getElem_cons_zero, Act.put, List.setIfInBounds_toArray, List.set_cons_zero, List.set_cons_succ]
                              refine Hd.one (i := 11) rfl (by kernel_rfl) (fun K hK => ?_)
                              have hs1 := hzn.boxSome (C := [.string ⟨#[]⟩, .int .u64 0, .int .u64 0, .int .u64 0, .slice none 0 0]) 0 rfl
                              refine wp_store_op rfl 48 (.tmp 19) (.tmp 189) rfl (wXr.heap.size) 0 (bxCells zf) rfl rfl Tryz.sizeOf48 (bxT.one zf) hs1.1 hs1.2 ?_
                              have hzF := (hzn.fillBox (C := [.string ⟨#[]⟩, .int .u64 0, .int .u64 0, .int .u64 0, .slice none 0 0]) 0 rfl (bxCells zf) rfl).box 0 rfl
                              have hlF := (hln.sets (wXr.heap.size) (bxCells zf) (fun k hk _ => hk.2)).now
                              have hbF := bel_sets hb3 (wXr.heap.size) (bxCells zf) hFle
                              generalize wYr.setCells (wXr.heap.size) 0 (bxCells zf) = wFr at hzF hlF hbF ⊢
                              have hSn := hcl.out _ (hbd.trans (hbF.mono hbd.size))
                              refine hK _ _ hSn ?_
                              clear hK K
                              try simp only [List.getElem_toArray, List.getElem_cons_succ, List.getElem_cons_zero, Act.put, List.setIfInBounds_toArray, List.set_cons_zero, List.set_cons_succ]
                              refine Hd.done (by kernel_rfl) ?_
                              simp only [List.drop_succ_cons, List.drop_zero]
                              have hrel : Hid (Fd wr m1 q.box (wXr.heap.size) zf wFr) := Lib.hid ⟨hzf.out, hzF.1, hlF, hbd.trans (hbF.mono hbd.size)⟩
                              clear hs1 hzF hlF hbF
                              go_wp2_with fail
                              go_meet
                              case rel => exact ⟨wXr.heap.size, zf, rfl, rfl, hrel⟩
                            · go_simp
                              have hzn := (Zoo.nil Wd).newBox [.string ⟨#[]⟩, .int .u64 0, .int .u64 0, .int .u64 0, .slice none 0 0].toArray 48
                              have hbn : Below Wd.heap.size Wd _ := (Below.refl _ _).alloc (Nat.le_refl _) (.cells [.string ⟨#[]⟩, .int .u64 0, .int .u64 0, .int .u64 0, .slice none 0 0].toArray 48)
                              have hFB0 : Wd.heap.size < (Wd.alloc (.cells [.string ⟨#[]⟩, .int .u64 0, .int .u64 0, .int .u64 0, .slice none 0 0].toArray 48)).heap.size := by simp
                              generalize (Wd.alloc (.cells [.string ⟨#[]⟩, .int .u64 0, .int .u64 0, .int .u64 0, .slice none 0 0].toArray 48)) = wXr at hzn hbn hFB0 ⊢
                              have hSn := hcl.out _ (hbd.trans (hbn.mono hbd.size))
                              refine hK _ _ hSn ?_
                              clear hK K
                              try simp only [List.getElem_toArray, List.getElem_cons_succ, List.getElem_cons_zero, Act.put, List.setIfInBounds_toArray, List.set_cons_zero, List.set_cons_succ]
                              refine Hd.one (i := 6) rfl (by kernel_rfl) (fun K hK => ?_)
                              go_simp
                              refine (findS_any _ m1 wXr (hsCl.out _ (hbd.trans (hbn.mono (by first | exact hbd.size | exact Nat.le_trans hbd.size hbn.size)))) hsz.out _).mono ?_
                              rintro e wYr ⟨zf, rfl, hzf, hlf, hb_wYr⟩
                              dsimp only
                              have hb2_wYr := hbn.trans (hb_wYr.out.mono hbn.size)
                              have hzn2 := hzn.below hb_wYr.out
                              have hFle := Nat.le_refl Wd.heap.size
                              have hSn := hcl.out _ (hbd.trans (hb2_wYr.mono hbd.size))
                              refine hK _ _ hSn ?_
                              clear hK K
                              try simp only [List.getElem_toArray, List.getElem_cons_succ, List.getElem_cons_zero, Act.put, List.setIfInBounds_toArray, List.set_cons_zero, List.set_cons_succ]
                              refine Hd.take (i := 7) (v := ?tv658) hok rfl (by kernel_rfl) (fun _ _ _ h => h) (Or.inl ⟨by rfl, ?ty658⟩) (by assumption) ?tr658
                              case ty658 => (intro w hSw; (try dsimp only at hSw); go_simp; (try with_reducible rfl))
                              try simp only [List.getElem_toArray, List.getElem_cons_succ, List.getElem_cons_zero, Act.put, List.setIfInBounds_toArray, List.set_cons_zero, List.set_cons_succ]
                              refine Hd.take (i := 8) (v := ?tv659) hok rfl (by kernel_rfl) (fun _ _ _ h => h) (Or.inl ⟨by rfl, ?ty659⟩) (by assumption) ?tr659
                              case ty659 => (intro w hSw; (try dsimp only at hSw); go_simp; (try with_reducible rfl))
                              try simp only [List.getElem_toArray, List.getElem_cons_succ, List.getElem_cons_zero, Act.put, List.setIfInBounds_toArray, List.set_cons_zero, List.set_cons_succ]
                              refine Hd.take (i := 9) (v := ?tv660) hok rfl (by kernel_rfl) (fun _ _ _ h => h) (Or.inl ⟨by rfl, ?ty660⟩) (by assumption) ?tr660
                              case ty660 => (intro w hSw; (try dsimp only at hSw); go_simp; (try with_reducible rfl))
                              try simp only [List.getElem_toArray, List.getElem_cons_succ, List.getElem_cons_zero, Act.put, List.setIfInBounds_toArray, List.set_cons_zero, List.set_cons_succ]
                              refine Hd.one (i := 11) rfl (by kernel_rfl) (fun K hK => ?_)
                              have hs1 := hzn2.boxSome (C := [.string ⟨#[]⟩, .int .u64 0, .int .u64 0, .int .u64 0, .slice none 0 0]) 0 rfl
                              refine wp_store_op rfl 48 (.tmp 19) (.tmp 189) rfl (Wd.heap.size) 0 (bxCells zf) rfl rfl Tryz.sizeOf48 (bxT.one zf) hs1.1 hs1.2 ?_
                              have hzF := (hzn2.fillBox (C := [.string ⟨#[]⟩, .int .u64 0, .int .u64 0, .int .u64 0, .slice none 0 0]) 0 rfl (bxCells zf) rfl).box 0 rfl
                              have hlF := (hlf.out.sets (Wd.heap.size) (bxCells zf) (fun k hk _ => by have h1 : wXr.heap.size ≤ k := hk; omega)).now
                              have hbF := bel_sets hb2_wYr (Wd.heap.size) (bxCells zf) hFle
                              generalize wYr.setCells (Wd.heap.size) 0 (bxCells zf) = wFr at hzF hlF hbF ⊢
                              have hSn := hcl.out _ (hbd.trans (hbF.mono hbd.size))
                              refine hK _ _ hSn ?_
                              clear hK K
                              try simp only [List.getElem_toArray, List.getElem_cons_succ, List.getElem_cons_zero, Act.put, List.setIfInBounds_toArray, List.set_cons_zero, List.set_cons_succ]
                              refine Hd.done (by kernel_rfl) ?_
                              simp only [List.drop_succ_cons, List.drop_zero]
                              have hrel : Hid (Fd wr m1 q.box (Wd.heap.size) zf wFr) := Lib.hid ⟨hzf.out, hzF.1, hlF, hbd.trans (hbF.mono hbd.size)⟩
                              clear hs1 hzF hlF hbF
                              go_wp2_with fail
                              go_meet
                              case rel => exact ⟨Wd.heap.size, zf, rfl, rfl, hrel⟩
                        case rest =>
                        as_aux_lemma =>
                          obtain ⟨FB, zf, rfl, rfl, hF⟩ := hcut
                          generalize wc = w8 at *
                          have hA8 := Lib.hid (hA.out.below hF.out.2.2.2)
                          obtain ⟨hzfb, hFh, -, hFb⟩ := hF.out
                          rw [hfi.out] at hzfb ⊢
                          have hzz : zf.b = bx := hzfb
                          have hBm := hr1.out.boxes _ hbm.out
                          have hnext := hno.out.next hbm.out
                          rw [← hzz] at hBm hnext
                          have hsk : NkSz ⟨zf.name, zf.validity, zf.next⟩ := ⟨hBm.nmsz, by have h1 := hBm.v2; have h2 := hr1.out.nv; show zf.validity < _; have h3 : zf.b.validity = zf.validity := rfl; omega, by have h2 := hBm.n2; show zf.next < _; have h3 : zf.b.next = zf.next := rfl; omega⟩
                          obtain ⟨C1, D1, O1, hz, sC, sD, sO⟩ := hA8.out
                          obtain ⟨aU2, cU2, aM2, cM2, rfl, hou⟩ := sO.now.shape
                          have hl1 : o2.uids.length = 1 := by rw [hui.out]; rfl
                          obtain ⟨ub, uo, hao, hubl, huc⟩ := hou.at_pos (by omega)
                          subst hao
                          have hu0 : w8.cell? ⟨ub, uo, none⟩ = some (.int .u64 (zf.next : Int)) := by
                            have h1 := huc 0 (.int .u64 (zf.next : Int)) (by rw [hui.out, ← hzz]; rfl)
                            exact h1
                          have hlook := (hz.drew.map (B := B) (n := n') (F := F') 3 rfl).1.look1 _ hsk
                          have hnext' : F' ⟨zf.name, zf.validity, zf.next⟩ = none := hnext
                          rw [hnext'] at hlook
                          unfold nkV at hlook
                          dsimp only [Option.getD] at hlook
                          obtain ⟨hbO, -⟩ := hz.box (B := OB) (C := [.int .i64 o2.code, .int .u64 o2.session, .int .u64 o2.validity, .slice (some ⟨ub, uo, none⟩) o2.uids.length cU2, .slice aM2 o2.mods.length cM2].toArray) (t := 35) 0 rfl
                          rw [hl1] at hbO
                          have hcl2 : Hid (∀ w', Below w8.heap.size w8 w' → w'.cell? ⟨OB, 3, none⟩ = some (.slice (some ⟨ub, uo, none⟩) 1 cU2) ∧ w'.cell? ⟨ub, uo, none⟩ = some (.int .u64 zf.next) ∧ w'.cell? ⟨FB, 0, none⟩ = some (.string zf.name) ∧ w'.cell? ⟨FB, 1, none⟩ = some (.int .u64 zf.validity) ∧ w'.cell? ⟨FB, 2, none⟩ = some (.int .u64 zf.next)) := Lib.hid (fun w' h => ⟨box_cell (bel_heap h hbO) 3, (h.cell (p := ⟨ub, uo, none⟩) hubl).trans hu0, box_cell (bel_heap h hFh) 0, box_cell (bel_heap h hFh) 1, box_cell (bel_heap h hFh) 2⟩)
                          have hbd8 : Below w8.heap.size w8 w8.drew := (Below.refl _ _).drew
                          have t1 : ((zf.next : Int) != (zf.next : Int)) = false := by simp
                          have t2 : ((⟨#[]⟩ : ByteArray).toList != (⟨#[]⟩ : ByteArray).toList) = false := by simp
                          clear hou hl1 huc hubl hu0 hnext hnext' hbO hz sC sD sO hsk hBm hzz hzfb hFh hFb hF hcl hsCl hbd hb0 hsz hbm hfi hui hA
                          have hA := Lib.hid (hA8.out.below hbd8)
                          clear hA8
                          dsimp only [Option.isSome]
                          go_upto_region 34 with fail
                          refine wp_region_hd (fun w' => w'.cell? ⟨OB, 3, none⟩ = some (.slice (some ⟨ub, uo, none⟩) 1 cU2) ∧ w'.cell? ⟨ub, uo, none⟩ = some (.int .u64 zf.next) ∧ w'.cell? ⟨FB, 0, none⟩ = some (.string zf.name) ∧ w'.cell? ⟨FB, 1, none⟩ = some (.int .u64 zf.validity) ∧ w'.cell? ⟨FB, 2, none⟩ = some (.int .u64 zf.next)) 26 3 (by kernel_rfl) rfl ⟨by kernel_rfl, by kernel_rfl, by kernel_rfl, by decide⟩ (hcl2.out _ hbd8) (fun hok hS0 => ?_)
                          generalize w8.drew = Wd at *
                          refine Hd.take (i := 0) (v := ?tv661) hok rfl (by kernel_rfl) (fun _ _ _ h => h) (Or.inl ⟨by rfl, ?ty661⟩) (by assumption) ?tr661
                          case ty661 => (intro w hSw; (try dsimp only at hSw); go_simp; (try with_reducible rfl))
                          try simp only [List.getElem_toArray, List.getElem_cons_succ, List.getElem_cons_zero, Act.put, List.setIfInBounds_toArray, List.set_cons_zero, List.set_cons_succ]
                          refine Hd.take (i := 1) (v := ?tv662) hok rfl (by kernel_rfl) (fun _ _ _ h => h) (Or.inl ⟨by rfl, ?ty662⟩) (by assumption) ?tr662
                          case ty662 => (intro w hSw; (try dsimp only at hSw); go_simp; (try with_reducible rfl))
                          try simp only [List.getElem_toArray, List.getElem_cons_succ, List.getElem_cons_zero, Act.put, List.setIfInBounds_toArray, List.set_cons_zero, List.set_cons_succ]
                          refine Hd.take (i := 2) (v := ?tv663) hok rfl (by kernel_rfl) (fun _ _ _ h => h) (Or.inl ⟨by rfl, ?ty663⟩) (by assumption) ?tr663
                          case ty663 => (intro w hSw; (try dsimp only at hSw); go_simp; (try with_reducible rfl))
                          try simp only [List.getElem_toArray, List.getElem_cons_succ, List.getElem_cons_zero, Act.put, List.setIfInBounds_toArray, List.set_cons_zero, List.set_cons_succ]
                          refine Hd.take (i := 3) (v := ?tv664) hok rfl (by kernel_rfl) (fun _ _ _ h => h) (Or.inl ⟨by rfl, ?ty664⟩) (by assumption) ?tr664
                          case ty664 => (intro w hSw; (try dsimp only at hSw); go_simp; (try with_reducible rfl))
                          try simp only [List.getElem_toArray, List.getElem_cons_succ, List.getElem_cons_zero, Act.put, List.setIfInBounds_toArray, List.set_cons_zero, List.set_cons_succ]
                          refine Hd.take (i := 4) (v := ?tv665) hok rfl (by kernel_rfl) (fun _ _ _ h => h) (Or.inl ⟨by rfl, ?ty665⟩) (by assumption) ?tr665
                          case ty665 => (intro w hSw; (try dsimp only at hSw); go_simp; (try with_reducible rfl))
                          try simp only [List.getElem_toArray, List.getElem_cons_succ, List.getElem_cons_zero, Act.put, List.setIfInBounds_toArray, List.set_cons_zero, List.set_cons_succ]
                          refine Hd.take (i := 5) (v := ?tv666) hok rfl (by kernel_rfl) (fun _ _ _ h => h) (Or.inl ⟨by rfl, ?ty666⟩) (by assumption) ?tr666
                          case ty666 => (intro w hSw; (try dsimp only at hSw); go_simp; (try with_reducible rfl))
                          try simp only [List.getElem_toArray, List.getElem_cons_succ, List.getElem_cons_zero, Act.put, List.setIfInBounds_toArray, List.set_cons_zero, List.set_cons_succ]
                          refine Hd.take (i := 6) (v := ?tv667) hok rfl (by kernel_rfl) (fun _ _ _ h => h) (Or.inl ⟨by rfl, ?ty667⟩) (by assumption) ?tr667
                          case ty667 => (intro w hSw; (try dsimp only at hSw); go_simp; (try with_reducible rfl))
                          try simp only [List.getElem_toArray, List.getElem_cons_succ, List.getElem_cons_zero, Act.put, List.setIfInBounds_toArray, List.set_cons_zero, List.set_cons_succ]
                          refine Hd.take (i := 7) (v := ?tv668) hok rfl (by kernel_rfl) (fun _ _ _ h => h) (Or.inl ⟨by rfl, ?ty668⟩) (by assumption) ?tr668
                          case ty668 => (intro w hSw; (try dsimp only at hSw); go_simp; (try with_reducible rfl))
                          try simp only [List.getElem_toArray, List.getElem_cons_succ, List.getElem_cons_zero, Act.put, List.setIfInBounds_toArray, List.set_cons_zero, List.set_cons_succ]
                          refine Hd.take (i := 8) (v := ?tv669) hok rfl (by kernel_rfl) (fun _ _ _ h => h) (Or.inl ⟨by rfl, ?ty669⟩) (by assumption) ?tr669
                          case ty669 => (intro w hSw; (try dsimp only at hSw); go_simp; (try with_reducible rfl))
                          try simp only [List.getElem_toArray, List.getElem_cons_succ, List.getElem_cons_zero, Act.put, List.setIfInBounds_toArray, List.set_cons_zero, List.set_cons_succ]
                          refine Hd.take (i := 9) (v := ?tv670) hok rfl (by kernel_rfl) (fun _ _ _ h => h) (Or.inl ⟨by rfl, ?ty670⟩) (by assumption) ?tr670
                          case ty670 => (intro w hSw; (try dsimp only at hSw); go_simp; (try with_reducible rfl))
                          try simp only [List.getElem_toArray, List.getElem_cons_succ, List.getElem_cons_zero, Act.put, List.setIfInBounds_toArray, List.set_cons_zero, List.set_cons_succ]
                          refine Hd.take (i := 10) (v := ?tv671) hok rfl (by kernel_rfl) (fun _ _ _ h => h) (Or.inl ⟨by rfl, ?ty671⟩) (by assumption) ?tr671
                          case ty671 => (intro w hSw; (try dsimp only at hSw); go_simp; (try with_reducible rfl))
                          try simp only [List.getElem_toArray, List.getElem_cons_succ, List.getElem_cons_zero, Act.put, List.setIfInBounds_toArray, List.set_cons_zero, List.set_cons_succ]
                          refine Hd.take (i := 11) (v := ?tv672) hok rfl (by kernel_rfl) (fun _ _ _ h => h) (Or.inl ⟨by rfl, ?ty672⟩) (by assumption) ?tr672
                          case ty672 => (intro w hSw; (try dsimp only at hSw); go_simp; (try with_reducible rfl))
                          try simp only [List.getElem_toArray, List.getElem_cons_succ, List.getElem_cons_zero, Act.put, List.setIfInBounds_toArray, List.set_cons_zero, List.set_cons_succ]
                          refine Hd.take (i := 12) (v := ?tv673) hok rfl (by kernel_rfl) (fun _ _ _ h => h) (Or.inl ⟨by rfl, ?ty673⟩) (by assumption) ?tr673
                          case ty673 => (intro w hSw; (try dsimp only at hSw); go_simp; (try with_reducible rfl))
                          try simp only [List.getElem_toArray, List.getElem_cons_succ, List.getElem_cons_zero, Act.put, List.setIfInBounds_toArray, List.set_cons_zero, List.set_cons_succ]
                          refine Hd.take (i := 13) (v := ?tv674) hok rfl (by kernel_rfl) (fun _ _ _ h => h) (Or.inl ⟨by rfl, ?ty674⟩) (by assumption) ?tr674
                          case ty674 => (intro w hSw; (try dsimp only at hSw); go_simp; (try with_reducible rfl))
                          try simp only [List.getElem_toArray, List.getElem_cons_succ, List.getElem_cons_zero, Act.put, List.setIfInBounds_toArray, List.set_cons_zero, List.set_cons_succ]
                          refine Hd.take (i := 14) (v := ?tv675) hok rfl (by kernel_rfl) (fun _ _ _ h => h) (Or.inl ⟨by rfl, ?ty675⟩) (by assumption) ?tr675
                          case ty675 => (intro w hSw; (try dsimp only at hSw); go_simp; (try with_reducible rfl))
                          try simp only [List.getElem_toArray, List.getElem_cons_succ, List.getElem_cons_zero, Act.put, List.setIfInBounds_toArray, List.set_cons_zero, List.set_cons_succ]
                          refine Hd.take (i := 15) (v := ?tv676) hok rfl (by kernel_rfl) (fun _ _ _ h => h) (Or.inl ⟨by rfl, ?ty676⟩) (by assumption) ?tr676
                          case ty676 => (intro w hSw; (try dsimp only at hSw); go_simp; (try with_reducible rfl))
                          try simp only [List.getElem_toArray, List.getElem_cons_succ, List.getElem_cons_zero, Act.put, List.setIfInBounds_toArray, List.set_cons_zero, List.set_cons_succ]
                          refine Hd.take (i := 16) (v := ?tv677) hok rfl (by kernel_rfl) (fun _ _ _ h => h) (Or.inl ⟨by rfl, ?ty677⟩) (by assumption) ?tr677
                          case ty677 => (intro w hSw; (try dsimp only at hSw); go_simp; (try with_reducible rfl))
                          try simp only [List.getElem_toArray, List.getElem_cons_succ, List.getElem_cons_zero, Act.put, List.setIfInBounds_toArray, List.set_cons_zero, List.set_cons_succ]
                          refine Hd.take (i := 17) (v := ?tv678) hok rfl (by kernel_rfl) (fun _ _ _ h => h) (Or.inl ⟨by rfl, ?ty678⟩) (by assumption) ?tr678
                          case ty678 => (intro w hSw; (try dsimp only at hSw); go_simp; (try with_reducible rfl))
                          try simp only [List.getElem_toArray, List.getElem_cons_succ, List.getElem_cons_zero, Act.put, List.setIfInBounds_toArray, List.set_cons_zero, List.set_cons_succ]
                          refine Hd.take (i := 18) (v := ?tv679) hok rfl (by kernel_rfl) (fun _ _ _ h => h) (Or.inl ⟨by rfl, ?ty679⟩) (by assumption) ?tr679
                          case ty679 => (intro w hSw; (try dsimp only at hSw); go_simp; (try with_reducible rfl))
                          try simp only [List.getElem_toArray, List.getElem_cons_succ, List.getElem_cons_zero, Act.put, List.setIfInBounds_toArray, List.set_cons_zero, List.set_cons_succ]
                          refine Hd.take (i := 19) (v := ?tv680) hok rfl (by kernel_rfl) (fun _ _ _ h => h) (Or.inl ⟨by rfl, ?ty680⟩) (by assumption) ?tr680
                          case ty680 => (intro w hSw; (try dsimp only at hSw); go_simp; (try with_reducible rfl))
                          try simp only [List.getElem_toArray, List.getElem_cons_succ, List.getElem_cons_zero, Act.put, List.setIfInBounds_toArray, List.set_cons_zero, List.set_cons_succ]
                          refine Hd.take (i := 20) (v := ?tv681) hok rfl (by kernel_rfl) (fun _ _ _ h => h) (Or.inl ⟨by rfl, ?ty681⟩) (by assumption) ?tr681
                          case ty681 => (intro w hSw; (try dsimp only at hSw); go_simp; (try with_reducible rfl))
                          try simp only [List.getElem_toArray, List.getElem_cons_succ, List.getElem_cons_zero, Act.put, List.setIfInBounds_toArray, List.set_cons_zero, List.set_cons_succ]
                          refine Hd.take (i := 21) (v := ?tv682) hok rfl (by kernel_rfl) (fun _ _ _ h => h) (Or.inl ⟨by rfl, ?ty682⟩) (by assumption) ?tr682
                          case ty682 => (intro w hSw; (try dsimp only at hSw); go_simp; (try with_reducible rfl))
                          try simp only [List.getElem_toArray, List.getElem_cons_succ, List.getElem_cons_zero, Act.put, List.setIfInBounds_toArray, List.set_cons_zero, List.set_cons_succ]
                          refine Hd.take (i := 22) (v := ?tv683) hok rfl (by kernel_rfl) (fun _ _ _ h => h) (Or.inl ⟨by rfl, ?ty683⟩) (by assumption) ?tr683
                          case ty683 => (intro w hSw; (try dsimp only at hSw); go_simp; (try with_reducible rfl))
                          try simp only [List.getElem_toArray, List.getElem_cons_succ, List.getElem_cons_zero, Act.put, List.setIfInBounds_toArray, List.set_cons_zero, List.set_cons_succ]
                          refine Hd.take (i := 23) (v := ?tv684) hok rfl (by kernel_rfl) (fun _ _ _ h => h) (Or.inl ⟨by rfl, ?ty684⟩) (by assumption) ?tr684
                          case ty684 => (intro w hSw; (try dsimp only at hSw); go_simp; (try with_reducible rfl))
                          try simp only [List.getElem_toArray, List.getElem_cons_succ, List.getElem_cons_zero, Act.put, List.setIfInBounds_toArray, List.set_cons_zero, List.set_cons_succ]
                          refine Hd.take (i := 24) (v := ?tv685) hok rfl (by kernel_rfl) (fun _ _ _ h => h) (Or.inl ⟨by rfl, ?ty685⟩) (by assumption) ?tr685
                          case ty685 => (intro w hSw; (try dsimp only at hSw); go_simp; (try with_reducible rfl))
                          try simp only [List.getElem_toArray, List.getElem_cons_succ, List.getElem_cons_zero, Act.put, List.setIfInBounds_toArray, List.set_cons_zero, List.set_cons_succ]
                          refine Hd.take (i := 25) (v := ?tv686) hok rfl (by kernel_rfl) (fun _ _ _ h => h) (Or.inl ⟨by rfl, ?ty686⟩) (by assumption) ?tr686
                          case ty686 => (intro w hSw; (try dsimp only at hSw); go_simp; (try with_reducible rfl))
                          try simp only [List.getElem_toArray, List.getElem_cons_succ, List.getElem_cons_zero, Act.put, List.setIfInBounds_toArray, List.set_cons_zero, List.set_cons_succ]
                          refine Hd.done (by kernel_rfl) ?_
                          simp only [List.drop_succ_cons, List.drop_zero]
                          clear hok hS0 hcl2 hbd8
                          go_upto_region 36 with fail
                          clear hlook t1 t2
                          as_aux_lemma =>
                            obtain ⟨C1, D1, O1, hz, sC, sD, sO⟩ := hA.out
                            obtain ⟨ab1, cb1, nb1, ah1, ch1, as1, cs1, rfl⟩ := sC.now.shape
                            obtain ⟨ab2, cb2, nb2, ah2, ch2, as2, cs2, rfl⟩ := sD.now.shape
                            obtain ⟨hbM, -⟩ := hz.box (B := MB) (C := [.slice ab1 nb1 cb1, .int .u64 m1.nv, .slice ah1 m1.homes.length ch1, .slice as1 m1.seats.length cs1, .int .u64 m1.ns, .int .u64 m1.sweeps].toArray) (t := 27) 2 rfl
                            obtain ⟨hbT, -⟩ := hz.box (B := TB) (C := [.slice ab2 nb2 cb2, .int .u64 m2.nv, .slice ah2 m2.homes.length ch2, .slice as2 m2.seats.length cs2, .int .u64 m2.ns, .int .u64 m2.sweeps].toArray) (t := 27) 1 rfl
                            have z0 : Wd.cell? ⟨TB, 0, none⟩ = some (.slice ab2 nb2 cb2) := box_cell hbT 0
                            have z1 : Wd.cell? ⟨TB, 1, none⟩ = some (.int .u64 m2.nv) := box_cell hbT 1
                            have z2 : Wd.cell? ⟨TB, 2, none⟩ = some (.slice ah2 m2.homes.length ch2) := box_cell hbT 2
                            have z3 : Wd.cell? ⟨TB, 3, none⟩ = some (.slice as2 m2.seats.length cs2) := box_cell hbT 3
                            have z4 : Wd.cell? ⟨TB, 4, none⟩ = some (.int .u64 m2.ns) := box_cell hbT 4
                            have z5 : Wd.cell? ⟨TB, 5, none⟩ = some (.int .u64 m2.sweeps) := box_cell hbT 5
                            have x0 : Wd.cell? ⟨MB, 0, none⟩ = some (.slice ab1 nb1 cb1) := box_cell hbM 0
                            have fx0 : Wd.frozen? ⟨MB, 0, none⟩ = false := box_free hbM 0
                            have x1 : Wd.cell? ⟨MB, 1, none⟩ = some (.int .u64 m1.nv) := box_cell hbM 1
                            have fx1 : Wd.frozen? ⟨MB, 1, none⟩ = false := box_free hbM 1
                            have x2 : Wd.cell? ⟨MB, 2, none⟩ = some (.slice ah1 m1.homes.length ch1) := box_cell hbM 2
                            have fx2 : Wd.frozen? ⟨MB, 2, none⟩ = false := box_free hbM 2
                            have x3 : Wd.cell? ⟨MB, 3, none⟩ = some (.slice as1 m1.seats.length cs1) := box_cell hbM 3
                            have fx3 : Wd.frozen? ⟨MB, 3, none⟩ = false := box_free hbM 3
                            have x4 : Wd.cell? ⟨MB, 4, none⟩ = some (.int .u64 m1.ns) := box_cell hbM 4
                            have fx4 : Wd.frozen? ⟨MB, 4, none⟩ = false := box_free hbM 4
                            have x5 : Wd.cell? ⟨MB, 5, none⟩ = some (.int .u64 m1.sweeps) := box_cell hbM 5
                            have fx5 : Wd.frozen? ⟨MB, 5, none⟩ = false := box_free hbM 5
                            have hzF := ((hz.fillBox (B := MB) (C := [.slice ab1 nb1 cb1, .int .u64 m1.nv, .slice ah1 m1.homes.length ch1, .slice as1 m1.seats.length cs1, .int .u64 m1.ns, .int .u64 m1.sweeps]) (t := 27) 2 rfl [.slice ab2 nb2 cb2, .int .u64 m2.nv, .slice ah2 m2.homes.length ch2, .slice as2 m2.seats.length cs2, .int .u64 m2.ns, .int .u64 m2.sweeps] rfl).sub (L' := [boxT MB [.slice ab2 nb2 cb2, .int .u64 m2.nv, .slice ah2 m2.homes.length ch2, .slice as2 m2.seats.length cs2, .int .u64 m2.ns, .int .u64 m2.sweeps].toArray 27, mapT B n' F']) (List.Sublist.cons _ (List.Sublist.cons _ (List.Sublist.refl _))))
                            have hsF := ((sD.setL (B := MB) (.head _) [.slice ab2 nb2 cb2, .int .u64 m2.nv, .slice ah2 m2.homes.length ch2, .slice as2 m2.seats.length cs2, .int .u64 m2.ns, .int .u64 m2.sweeps]).lessL (L' := [MB, B]) (fun x hx => by simp only [List.mem_cons, List.not_mem_nil, or_false] at hx ⊢; rcases hx with rfl | rfl <;> simp))
                            have hHF : HoldsN W MB B n' F' m2 (Wd.setCells MB 0 [.slice ab2 nb2 cb2, .int .u64 m2.nv, .slice ah2 m2.homes.length ch2, .slice as2 m2.seats.length cs2, .int .u64 m2.ns, .int .u64 m2.sweeps]) := ⟨_, hzF, hsF⟩
                            simp only [World.setCells, Nat.zero_add] at hHF
                            replace hHF := Lib.hid hHF
                            clear hzF hsF hz sC sD sO hbM hbT hA
                            go_upto_region 7 with fail
                            clear x0 x1 x2 x3 x4 x5 fx0 fx1 fx2 fx3 fx4 fx5 z0 z1 z2 z3 z4 z5 hlk hk hile hile2
                            go_wp2_with fail
                            go_roundw
                            case rel => exact ⟨i + 1, n', m2, F', by go_num, by omega, hr2, hno2, hn5, hHF⟩
                            case measure => simp [intOf] <;> omega
          · obtain rfl : i = l.length := by omega
            have hne : ((l.length : Int) == (l.length : Int)) = true := by simp
            have hbF := Lib.hid hz.bel
            clear hz hs hH
            go_wp2_with fail
            go_ret
            first | exact ⟨rfl, hbF.out⟩ | (rw [← hMB.out]; exact ⟨rfl, hbF.out⟩)
end Go.Proofs.YtdobbfjmlnlieaaGreat
