/- The document's Same, asked about two states: walked. (written by tools/gen_MnX.py) SameOutcome, asked about two outcomes that are the same: walked. -/
import Derived.Test.YtdobbfjmlnlieaaGreatB30
import Derived.Test.YtdobbfjmlnlieaaGreatB25
import Derived.Test.YtdobbfjmlnlieaaGreatB22
namespace Go.Proofs.YtdobbfjmlnlieaaGreat
set_option linter.unusedSimpArgs false
open Go.RowKit
attribute [local go_sem ↓] Go.wp_at_zero Go.wp_at_succ

theorem bel_heap0 {w w' : World} (h : Below w.heap.size w w') {B : Nat} {o : Obj} (ho : w.heap[B]? = some o) : w'.heap[B]? = some o := (h.block B (Array.getElem?_eq_some_iff.1 ho).1).trans ho
/-- a yes or a no; a yes, if P -/
def YesIf (P : Prop) (W : World) (e : Ending) (w' : World) : Prop := ∃ B, e = .returned (.bool B) ∧ Hid (P → B = true) ∧ Hid (Below W.heap.size W w')
structure SameSz (m : Ml) : Prop where
  b : m.boxes.length ≤ 100000
  s : m.seats.length ≤ 100000
  h : m.homes.length ≤ 100000
  l : ∀ b ∈ m.boxes, b.letters.length ≤ 1000000
  f : ∀ b ∈ m.boxes, ∀ x ∈ b.letters, x.flags.length ≤ 10000
set_option maxRecDepth 100000 in
set_option maxHeartbeats 16000000 in
theorem same_any_ml {W : World} (v1 v2 : Value) {m1 m2 : Ml} (hin1 : MlIn W v1 m1) (hin2 : MlIn W v2 m2) (hz1 : SameSz m1) :
    Calls Tryz.prog 17 #[v1, v2] W (YesIf (m1 = m2) W) := by
  obtain ⟨vb1, vh1, vs1, b1, rfl, hb1, hib1, hih1, his1⟩ := hin1
  obtain ⟨vb2, vh2, vs2, b2, rfl, hb2, hib2, hih2, his2⟩ := hin2
  obtain ⟨h1, hh1⟩ : ∃ h1, m1.homes = h1 := ⟨_, rfl⟩
  obtain ⟨h2, hh2⟩ : ∃ h2, m2.homes = h2 := ⟨_, rfl⟩
  obtain ⟨s1, hs1⟩ : ∃ s1, m1.seats = s1 := ⟨_, rfl⟩
  obtain ⟨s2, hs2⟩ : ∃ s2, m2.seats = s2 := ⟨_, rfl⟩
  rw [hh1] at hih1
  rw [hs1] at his1
  rw [hh2] at hih2
  rw [hs2] at his2
  have hB1 : Hid (∀ w', Below W.heap.size W w' → BxsIn w' vb1 b1) := Lib.hid (fun w' h => hib1.below h)
  have hB2 : Hid (∀ w', Below W.heap.size W w' → BxsIn w' vb2 b2) := Lib.hid (fun w' h => hib2.below h)
  have hH1 : Hid (∀ w', Below W.heap.size W w' → HmsIn w' vh1 h1) := Lib.hid (fun w' h => Rd.below hih1 h)
  have hH2 : Hid (∀ w', Below W.heap.size W w' → HmsIn w' vh2 h2) := Lib.hid (fun w' h => Rd.below hih2 h)
  have hS1 : Hid (∀ w', Below W.heap.size W w' → StsIn w' vs1 s1) := Lib.hid (fun w' h => Rd.below his1 h)
  have hS2 : Hid (∀ w', Below W.heap.size W w' → StsIn w' vs2 s2) := Lib.hid (fun w' h => Rd.below his2 h)
  obtain ⟨aa, ca, rfl, -⟩ := hib1.1
  obtain ⟨ab, cb, rfl, -⟩ := hib2.1
  obtain ⟨ha, cha, rfl, -⟩ := hih1
  obtain ⟨hb, chb, rfl, -⟩ := hih2
  obtain ⟨sa, csa, rfl, -⟩ := his1
  obtain ⟨sb, csb, rfl, -⟩ := his2
  have lb1 : b1.length = m1.boxes.length := by rw [← hb1, List.length_map]
  have lb2 : b2.length = m2.boxes.length := by rw [← hb2, List.length_map]
  obtain ⟨Pp, hP⟩ : ∃ Pp : Prop, Pp = (m1 = m2) := ⟨_, rfl⟩
  rw [← hP]
  have hlb := hz1.b
  have hls := hz1.s
  have hlh := hz1.h
  rw [← lb1] at hlb
  rw [hs1] at hls
  rw [hh1] at hlh
  have hbx : Hid (∀ w', Below W.heap.size W w' → ∀ j (hj : j < b1.length), b1[j].rows.length ≤ 1000000 ∧ ∀ y ∈ b1[j].rows, y.x.flags.length * 16 ≤ 140737488355328) := Lib.hid (fun w' _ j hj => by
    have hm : b1[j].b ∈ m1.boxes := by rw [← hb1]; exact List.mem_map_of_mem (List.getElem_mem hj)
    refine ⟨?_, fun y hy => ?_⟩
    · have h1 := hz1.l _ hm
      have h2 : b1[j].b.letters.length = b1[j].rows.length := List.length_map ..
      omega
    · have := hz1.f _ hm y.x (List.mem_map_of_mem (f := LtV.x) hy)
      omega)
  have hlen : Pp → b1.length = b2.length ∧ s1.length = s2.length ∧ h1.length = h2.length ∧ m1.nv = m2.nv ∧ m1.ns = m2.ns ∧ m1.sweeps = m2.sweeps := fun h => by
    rw [hP] at h
    subst h
    exact ⟨by rw [lb1, lb2], by rw [← hs1, ← hs2], by rw [← hh1, ← hh2], rfl, rfl, rfl⟩
  have hbox : Hid (Pp → ∀ j (h : j < b1.length) (h2 : j < b2.length), b1[j].b = b2[j].b) := Lib.hid (fun h j hj hj2 => by
    rw [hP] at h
    subst h
    have := congrArg (fun l : List Bx => l[j]?) (hb1.trans hb2.symm)
    simp only [List.getElem?_map, List.getElem?_eq_getElem hj, List.getElem?_eq_getElem hj2, Option.map_some, Option.some.injEq] at this
    exact this)
  have hst : Hid (Pp → s1 = s2) := Lib.hid (fun h => by rw [hP] at h; subst h; rw [← hs1, ← hs2])
  have hhm : Hid (Pp → h1 = h2) := Lib.hid (fun h => by rw [hP] at h; subst h; rw [← hh1, ← hh2])
  have hz2 := ((Zoo.nil W).newBox [.slice aa b1.length ca, .int .u64 m1.nv, .slice ha h1.length cha, .slice sa s1.length csa, .int .u64 m1.ns, .int .u64 m1.sweeps].toArray 27).newBox [.slice ab b2.length cb, .int .u64 m2.nv, .slice hb h2.length chb, .slice sb s2.length csb, .int .u64 m2.ns, .int .u64 m2.sweeps].toArray 27
  have hlt : W.heap.size < (W.alloc (.cells [.slice aa b1.length ca, .int .u64 m1.nv, .slice ha h1.length cha, .slice sa s1.length csa, .int .u64 m1.ns, .int .u64 m1.sweeps].toArray 27)).heap.size := by simp
  generalize hMB : W.heap.size = XB at hz2 hlt
  generalize hRB : (W.alloc (.cells [.slice aa b1.length ca, .int .u64 m1.nv, .slice ha h1.length cha, .slice sa s1.length csa, .int .u64 m1.ns, .int .u64 m1.sweeps].toArray 27)).heap.size = YB at hz2 hlt
  generalize hWb : ((W.alloc (.cells [.slice aa b1.length ca, .int .u64 m1.nv, .slice ha h1.length cha, .slice sa s1.length csa, .int .u64 m1.ns, .int .u64 m1.sweeps].toArray 27)).alloc (.cells [.slice ab b2.length cb, .int .u64 m2.nv, .slice hb h2.length chb, .slice sb s2.length csb, .int .u64 m2.ns, .int .u64 m2.sweeps].toArray 27)) = Wb at hz2
  obtain ⟨hbX, -⟩ := hz2.box 1 rfl
  obtain ⟨hbY, -⟩ := hz2.box 0 rfl
  have x0 : Wb.cell? ⟨XB, 0, none⟩ = some (.slice aa b1.length ca) := box_cell hbX 0
  have x1 : Wb.cell? ⟨XB, 1, none⟩ = some (.int .u64 m1.nv) := box_cell hbX 1
  have x2 : Wb.cell? ⟨XB, 2, none⟩ = some (.slice ha h1.length cha) := box_cell hbX 2
  have x3 : Wb.cell? ⟨XB, 3, none⟩ = some (.slice sa s1.length csa) := box_cell hbX 3
  have x4 : Wb.cell? ⟨XB, 4, none⟩ = some (.int .u64 m1.ns) := box_cell hbX 4
  have x5 : Wb.cell? ⟨XB, 5, none⟩ = some (.int .u64 m1.sweeps) := box_cell hbX 5
  have y0 : Wb.cell? ⟨YB, 0, none⟩ = some (.slice ab b2.length cb) := box_cell hbY 0
  have y1 : Wb.cell? ⟨YB, 1, none⟩ = some (.int .u64 m2.nv) := box_cell hbY 1
  have y2 : Wb.cell? ⟨YB, 2, none⟩ = some (.slice hb h2.length chb) := box_cell hbY 2
  have y3 : Wb.cell? ⟨YB, 3, none⟩ = some (.slice sb s2.length csb) := box_cell hbY 3
  have y4 : Wb.cell? ⟨YB, 4, none⟩ = some (.int .u64 m2.ns) := box_cell hbY 4
  have y5 : Wb.cell? ⟨YB, 5, none⟩ = some (.int .u64 m2.sweeps) := box_cell hbY 5
  have hbel := Lib.hid hz2.bel
  replace hz2 := Lib.hid hz2
  replace hlen := Lib.hid hlen
  clear hbX hbY hib1 hib2 hz1 hb1 hb2 hP hh1 hh2 hs1 hs2 lb1 lb2
  show Calls Tryz.prog 17 #[.agg #[.slice aa b1.length ca, .int .u64 m1.nv, .slice ha h1.length cha, .slice sa s1.length csa, .int .u64 m1.ns, .int .u64 m1.sweeps], .agg #[.slice ab b2.length cb, .int .u64 m2.nv, .slice hb h2.length chb, .slice sb s2.length csb, .int .u64 m2.ns, .int .u64 m2.sweeps]] W _
  go_enter Tryz.func17, Tryz.ntmps17
  go_upto_region 1 with fail
  clear hWb hRB
  cases t0 : ((b1.length : Int) == (b2.length : Int)) with
  | false =>
    have hn := Lib.hid (show ¬ Pp from fun h => by have h2 := (hlen.out h).1; rw [h2] at t0; simp at t0)
    have t0' : ((b1.length : Int) != (b2.length : Int)) = true := by simpa [bne] using t0
    clear hB1 hB2 hH1 hH2 hS1 hS2 hbx hbox hst hhm
    go_wp2_with fail
    go_ret
    first | exact ⟨false, rfl, Lib.hid (fun h => absurd h hn.out), hbel⟩ | (rw [← hMB]; exact ⟨false, rfl, Lib.hid (fun h => absurd h hn.out), hbel⟩)
  | true =>
    have t0' : ((b1.length : Int) != (b2.length : Int)) = false := by simpa [bne] using t0
    cases t1 : ((s1.length : Int) == (s2.length : Int)) with
    | false =>
      have hn := Lib.hid (show ¬ Pp from fun h => by have h2 := (hlen.out h).2.1; rw [h2] at t1; simp at t1)
      have t1' : ((s1.length : Int) != (s2.length : Int)) = true := by simpa [bne] using t1
      clear hB1 hB2 hH1 hH2 hS1 hS2 hbx hbox hst hhm
      go_wp2_with fail
      go_ret
      first | exact ⟨false, rfl, Lib.hid (fun h => absurd h hn.out), hbel⟩ | (rw [← hMB]; exact ⟨false, rfl, Lib.hid (fun h => absurd h hn.out), hbel⟩)
    | true =>
      have t1' : ((s1.length : Int) != (s2.length : Int)) = false := by simpa [bne] using t1
      cases t2 : ((h1.length : Int) == (h2.length : Int)) with
      | false =>
        have hn := Lib.hid (show ¬ Pp from fun h => by have h2 := (hlen.out h).2.2.1; rw [h2] at t2; simp at t2)
        have t2' : ((h1.length : Int) != (h2.length : Int)) = true := by simpa [bne] using t2
        clear hB1 hB2 hH1 hH2 hS1 hS2 hbx hbox hst hhm
        go_wp2_with fail
        go_ret
        first | exact ⟨false, rfl, Lib.hid (fun h => absurd h hn.out), hbel⟩ | (rw [← hMB]; exact ⟨false, rfl, Lib.hid (fun h => absurd h hn.out), hbel⟩)
      | true =>
        have t2' : ((h1.length : Int) != (h2.length : Int)) = false := by simpa [bne] using t2
        cases t3 : ((m1.nv : Int) == (m2.nv : Int)) with
        | false =>
          have hn := Lib.hid (show ¬ Pp from fun h => by have h2 := (hlen.out h).2.2.2.1; rw [h2] at t3; simp at t3)
          have t3' : ((m1.nv : Int) != (m2.nv : Int)) = true := by simpa [bne] using t3
          clear hB1 hB2 hH1 hH2 hS1 hS2 hbx hbox hst hhm
          go_wp2_with fail
          go_ret
          first | exact ⟨false, rfl, Lib.hid (fun h => absurd h hn.out), hbel⟩ | (rw [← hMB]; exact ⟨false, rfl, Lib.hid (fun h => absurd h hn.out), hbel⟩)
        | true =>
          have t3' : ((m1.nv : Int) != (m2.nv : Int)) = false := by simpa [bne] using t3
          cases t4 : ((m1.ns : Int) == (m2.ns : Int)) with
          | false =>
            have hn := Lib.hid (show ¬ Pp from fun h => by have h2 := (hlen.out h).2.2.2.2.1; rw [h2] at t4; simp at t4)
            have t4' : ((m1.ns : Int) != (m2.ns : Int)) = true := by simpa [bne] using t4
            clear hB1 hB2 hH1 hH2 hS1 hS2 hbx hbox hst hhm
            go_wp2_with fail
            go_ret
            first | exact ⟨false, rfl, Lib.hid (fun h => absurd h hn.out), hbel⟩ | (rw [← hMB]; exact ⟨false, rfl, Lib.hid (fun h => absurd h hn.out), hbel⟩)
          | true =>
            have t4' : ((m1.ns : Int) != (m2.ns : Int)) = false := by simpa [bne] using t4
            cases t5 : ((m1.sweeps : Int) == (m2.sweeps : Int)) with
            | false =>
              have hn := Lib.hid (show ¬ Pp from fun h => by have h2 := (hlen.out h).2.2.2.2.2; rw [h2] at t5; simp at t5)
              have t5' : ((m1.sweeps : Int) != (m2.sweeps : Int)) = true := by simpa [bne] using t5
              clear hB1 hB2 hH1 hH2 hS1 hS2 hbx hbox hst hhm
              go_wp2_with fail
              go_ret
              first | exact ⟨false, rfl, Lib.hid (fun h => absurd h hn.out), hbel⟩ | (rw [← hMB]; exact ⟨false, rfl, Lib.hid (fun h => absurd h hn.out), hbel⟩)
            | true =>
              have t5' : ((m1.sweeps : Int) != (m2.sweeps : Int)) = false := by simpa [bne] using t5
              go_wp2_with fail
              have l12 := Lib.hid (show b2.length = b1.length by have h := eq_of_beq t0; omega)
              have l12s := Lib.hid (show s2.length = s1.length by have h := eq_of_beq t1; omega)
              have l12h := Lib.hid (show h2.length = h1.length by have h := eq_of_beq t2; omega)
              clear x0 x1 x2 x3 x4 x5 y0 y1 y2 y3 y4 y5 t0 t1 t2 t3 t4 t5 t0' t1' t2' t3' t4' t5'
              go_loopw [5] (fun v5 wr => ∃ j : Nat, v5 = .int .i64 j ∧ j ≤ b1.length ∧ Hid (Zoo W wr [boxT YB [.slice ab b2.length cb, .int .u64 m2.nv, .slice hb h2.length chb, .slice sb s2.length csb, .int .u64 m2.ns, .int .u64 m2.sweeps].toArray 27, boxT XB [.slice aa b1.length ca, .int .u64 m1.nv, .slice ha h1.length cha, .slice sa s1.length csa, .int .u64 m1.ns, .int .u64 m1.sweeps].toArray 27])) (fun v5 _ => b1.length - (intOf v5).toNat)
              case atStart => exact ⟨0, rfl, Nat.zero_le _, hz2⟩
              case round =>
                clear hz2
                obtain ⟨j, rfl, hj, hz⟩ := hrel
                obtain ⟨hbX, -⟩ := hz.out.box 1 rfl
                have x0 : wr.cell? ⟨XB, 0, none⟩ = some (.slice aa b1.length ca) := box_cell hbX 0
                by_cases hlt2 : j < b1.length
                · have hinX := hB1.out wr hz.out.bel
                  have hinY := hB2.out wr hz.out.bel
                  have hlt3 : j < b2.length := by have := l12.out; omega
                  obtain ⟨p, po, pc, hv, -, hcX⟩ := bx_at hinX hlt2
                  injection hv with hv1 hv2 hv3
                  subst hv1 hv3
                  obtain ⟨r, ro, rc, hv, -, hcY⟩ := bx_at hinY hlt3
                  injection hv with hv1 hv2 hv3
                  subst hv1 hv3
                  have hbe : Hid (Pp → b1[j].b = b2[j].b) := Lib.hid (fun h => hbox.out h j hlt2 hlt3)
                  have hlx := hinX.2 _ (List.getElem_mem hlt2)
                  have hly := hinY.2 _ (List.getElem_mem hlt3)
                  obtain ⟨g1, g2⟩ := hbx.out wr hz.out.bel j hlt2
                  obtain ⟨x, hx'⟩ : ∃ x, b1[j] = x := ⟨_, rfl⟩
                  obtain ⟨y, hy'⟩ : ∃ y, b2[j] = y := ⟨_, rfl⟩
                  rw [hx'] at hcX hbe hlx g1 g2
                  rw [hy'] at hcY hbe hly
                  have hcall : Hid (∀ w', Below wr.heap.size wr w' → Calls Tryz.prog 20 #[.agg #[.string x.name, .int .u64 x.validity, .int .u64 x.next, .int .u64 x.high, .slice x.a x.rows.length x.c], .agg #[.string y.name, .int .u64 y.validity, .int .u64 y.next, .int .u64 y.high, .slice y.a y.rows.length y.c]] w' (YesNo (x.b = y.b) w')) := Lib.hid (fun w' hb => sameBox_any x y (hlx.below hb) (hly.below hb) g1 g2)
                  have hbX0 := hbX
                  obtain ⟨hbY, -⟩ := hz.out.box 0 rfl
                  have hcl : Hid (∀ w', Below wr.heap.size wr w' → w'.cell? ⟨XB, 0, none⟩ = some (.slice (some ⟨p, po, none⟩) b1.length ca) ∧ w'.cell? ⟨YB, 0, none⟩ = some (.slice (some ⟨r, ro, none⟩) b2.length cb) ∧ (w'.cell? ⟨p, po + j * 5, none⟩ = some (.string x.name) ∧ w'.cell? ⟨p, po + j * 5 + 1, none⟩ = some (.int .u64 x.validity) ∧ w'.cell? ⟨p, po + j * 5 + 2, none⟩ = some (.int .u64 x.next) ∧ w'.cell? ⟨p, po + j * 5 + 3, none⟩ = some (.int .u64 x.high) ∧ w'.cell? ⟨p, po + j * 5 + 4, none⟩ = some (.slice x.a x.rows.length x.c)) ∧ (w'.cell? ⟨r, ro + j * 5, none⟩ = some (.string y.name) ∧ w'.cell? ⟨r, ro + j * 5 + 1, none⟩ = some (.int .u64 y.validity) ∧ w'.cell? ⟨r, ro + j * 5 + 2, none⟩ = some (.int .u64 y.next) ∧ w'.cell? ⟨r, ro + j * 5 + 3, none⟩ = some (.int .u64 y.high) ∧ w'.cell? ⟨r, ro + j * 5 + 4, none⟩ = some (.slice y.a y.rows.length y.c))) := Lib.hid (fun w' h => ⟨box_cell (bel_heap0 h hbX0) 0, box_cell (bel_heap0 h hbY) 0, hcX w' h, hcY w' h⟩)
                  have hi0 : (0 : Int) ≤ (j : Int) := by omega
                  have hi1 : (j : Int) < (b1.length : Int) := by omega
                  have hi2 : (j : Int) < (b2.length : Int) := by have := l12.out; omega
                  have hbd := (Below.refl wr.heap.size wr).drew
                  clear hinX hinY hlx hly g1 g2 hx' hy' hbX hbX0 hbY hcX hcY
                  go_upto_region 6 with fail
                  clear x0
                  refine wp_region_hd (fun w' => w'.cell? ⟨XB, 0, none⟩ = some (.slice (some ⟨p, po, none⟩) b1.length ca) ∧ w'.cell? ⟨YB, 0, none⟩ = some (.slice (some ⟨r, ro, none⟩) b2.length cb) ∧ (w'.cell? ⟨p, po + j * 5, none⟩ = some (.string x.name) ∧ w'.cell? ⟨p, po + j * 5 + 1, none⟩ = some (.int .u64 x.validity) ∧ w'.cell? ⟨p, po + j * 5 + 2, none⟩ = some (.int .u64 x.next) ∧ w'.cell? ⟨p, po + j * 5 + 3, none⟩ = some (.int .u64 x.high) ∧ w'.cell? ⟨p, po + j * 5 + 4, none⟩ = some (.slice x.a x.rows.length x.c)) ∧ (w'.cell? ⟨r, ro + j * 5, none⟩ = some (.string y.name) ∧ w'.cell? ⟨r, ro + j * 5 + 1, none⟩ = some (.int .u64 y.validity) ∧ w'.cell? ⟨r, ro + j * 5 + 2, none⟩ = some (.int .u64 y.next) ∧ w'.cell? ⟨r, ro + j * 5 + 3, none⟩ = some (.int .u64 y.high) ∧ w'.cell? ⟨r, ro + j * 5 + 4, none⟩ = some (.slice y.a y.rows.length y.c))) 11 1 (by kernel_rfl) rfl ⟨by kernel_rfl, by kernel_rfl, by kernel_rfl, by decide⟩ (hcl.out _ hbd) (fun hok hS0 => ?_)
                  have hzd := hz.out.drew
                  generalize wr.drew = Wd at *
                  refine Hd.take (i := 0) (v := ?tv516) hok rfl (by kernel_rfl) (fun _ _ _ h => h) (Or.inl ⟨by rfl, ?ty516⟩) (by assumption) ?tr516
                  case ty516 => (intro w hSw; (try dsimp only at hSw); go_simp; (try with_reducible rfl))
                  try simp only [List.getElem_toArray, List.getElem_cons_succ, List.getElem_cons_zero, Act.put, List.setIfInBounds_toArray, List.set_cons_zero, List.set_cons_succ]
                  refine Hd.take (i := 1) (v := ?tv517) hok rfl (by kernel_rfl) (fun _ _ _ h => h) (Or.inl ⟨by rfl, ?ty517⟩) (by assumption) ?tr517
                  case ty517 => (intro w hSw; (try dsimp only at hSw); go_simp; (try with_reducible rfl))
                  try simp only [List.getElem_toArray, List.getElem_cons_succ, List.getElem_cons_zero, Act.put, List.setIfInBounds_toArray, List.set_cons_zero, List.set_cons_succ]
                  refine Hd.take (i := 2) (v := ?tv518) hok rfl (by kernel_rfl) (fun _ _ _ h => h) (Or.inl ⟨by rfl, ?ty518⟩) (by assumption) ?tr518
                  case ty518 => (intro w hSw; (try dsimp only at hSw); go_simp; (try with_reducible rfl))
                  try simp only [List.getElem_toArray, List.getElem_cons_succ, List.getElem_cons_zero, Act.put, List.setIfInBounds_toArray, List.set_cons_zero, List.set_cons_succ]
                  refine Hd.take (i := 3) (v := ?tv519) hok rfl (by kernel_rfl) (fun _ _ _ h => h) (Or.inl ⟨by rfl, ?ty519⟩) (by assumption) ?tr519
                  case ty519 => (intro w hSw; (try dsimp only at hSw); go_simp; (try with_reducible rfl))
                  try simp only [List.getElem_toArray, List.getElem_cons_succ, List.getElem_cons_zero, Act.put, List.setIfInBounds_toArray, List.set_cons_zero, List.set_cons_succ]
                  refine Hd.take (i := 4) (v := ?tv520) hok rfl (by kernel_rfl) (fun _ _ _ h => h) (Or.inl ⟨by rfl, ?ty520⟩) (by assumption) ?tr520
                  case ty520 => (intro w hSw; (try dsimp only at hSw); go_simp; (try with_reducible rfl))
                  try simp only [List.getElem_toArray, List.getElem_cons_succ, List.getElem_cons_zero, Act.put, List.setIfInBounds_toArray, List.set_cons_zero, List.set_cons_succ]
                  refine Hd.take (i := 5) (v := ?tv521) hok rfl (by kernel_rfl) (fun _ _ _ h => h) (Or.inl ⟨by rfl, ?ty521⟩) (by assumption) ?tr521
                  case ty521 => (intro w hSw; (try dsimp only at hSw); go_simp; (try with_reducible rfl))
                  try simp only [List.getElem_toArray, List.getElem_cons_succ, List.getElem_cons_zero, Act.put, List.setIfInBounds_toArray, List.set_cons_zero, List.set_cons_succ]
                  refine Hd.take (i := 6) (v := ?tv522) hok rfl (by kernel_rfl) (fun _ _ _ h => h) (Or.inl ⟨by rfl, ?ty522⟩) (by assumption) ?tr522
                  case ty522 => (intro w hSw; (try dsimp only at hSw); go_simp; (try with_reducible rfl))
                  try simp only [List.getElem_toArray, List.getElem_cons_succ, List.getElem_cons_zero, Act.put, List.setIfInBounds_toArray, List.set_cons_zero, List.set_cons_succ]
                  refine Hd.take (i := 7) (v := ?tv523) hok rfl (by kernel_rfl) (fun _ _ _ h => h) (Or.inl ⟨by rfl, ?ty523⟩) (by assumption) ?tr523
                  case ty523 => (intro w hSw; (try dsimp only at hSw); go_simp; (try with_reducible rfl))
                  try simp only [List.getElem_toArray, List.getElem_cons_succ, List.getElem_cons_zero, Act.put, List.setIfInBounds_toArray, List.set_cons_zero, List.set_cons_succ]
                  refine Hd.take (i := 8) (v := ?tv524) hok rfl (by kernel_rfl) (fun _ _ _ h => h) (Or.inl ⟨by rfl, ?ty524⟩) (by assumption) ?tr524
                  case ty524 => (intro w hSw; (try dsimp only at hSw); go_simp; (try with_reducible rfl))
                  try simp only [List.getElem_toArray, List.getElem_cons_succ, List.getElem_cons_zero, Act.put, List.setIfInBounds_toArray, List.set_cons_zero, List.set_cons_succ]
                  refine Hd.take (i := 9) (v := ?tv525) hok rfl (by kernel_rfl) (fun _ _ _ h => h) (Or.inl ⟨by rfl, ?ty525⟩) (by assumption) ?tr525
                  case ty525 => (intro w hSw; (try dsimp only at hSw); go_simp; (try with_reducible rfl))
                  try simp only [List.getElem_toArray, List.getElem_cons_succ, List.getElem_cons_zero, Act.put, List.setIfInBounds_toArray, List.set_cons_zero, List.set_cons_succ]
                  refine Hd.one (i := 10) rfl (by kernel_rfl) (fun K hK => ?_)
                  go_simp
                  refine (hcall.out _ hbd).mono ?_
                  rintro e w5 ⟨B, rfl, hB, hb5⟩
                  dsimp only
                  have hbd5 := hbd.trans (hb5.out.mono hbd.size)
                  have hz5 := Lib.hid (hzd.below hb5.out)
                  have hSf := hcl.out _ hbd5
                  refine hK _ _ hSf ?_
                  clear hK K hS0
                  try simp only [List.getElem_toArray, List.getElem_cons_succ, List.getElem_cons_zero, Act.put, List.setIfInBounds_toArray, List.set_cons_zero, List.set_cons_succ]
                  refine Hd.done (by kernel_rfl) ?_
                  simp only [List.drop_succ_cons, List.drop_zero]
                  cases B with
                  | false =>
                    have hn := Lib.hid (show ¬ Pp from fun h => Bool.noConfusion (hB.out.2 (hbe.out h)))
                    have hbF := Lib.hid hz5.out.bel
                    clear hok hSf hcl hcall hzd hb5 hB hbe hz5 hB1 hB2 hH1 hH2 hS1 hS2 hbx hbox hst hhm
                    go_wp2_with fail
                    go_ret
                    first | exact ⟨false, rfl, Lib.hid (fun h => absurd h hn.out), hbF⟩ | (rw [← hMB]; exact ⟨false, rfl, Lib.hid (fun h => absurd h hn.out), hbF⟩)
                  | true =>
                    clear hok hSf hcl hcall hzd hb5 hB hbe
                    go_wp2_with fail
                    go_roundw
                    case rel => exact ⟨j + 1, by go_num, by omega, hz5⟩
                    case measure => simp [intOf] <;> omega
                · obtain rfl : j = b1.length := by omega
                  clear hbX
                  go_wp2_with fail
                  clear x0
                  go_loopw [6] (fun v6 wr => ∃ j : Nat, v6 = .int .i64 j ∧ j ≤ s1.length ∧ Hid (∀ k (kh : k < s1.length) (kh2 : k < s2.length), k < j → s1[k] = s2[k]) ∧ Hid (Zoo W wr [boxT YB [.slice ab b2.length cb, .int .u64 m2.nv, .slice hb h2.length chb, .slice sb s2.length csb, .int .u64 m2.ns, .int .u64 m2.sweeps].toArray 27, boxT XB [.slice aa b1.length ca, .int .u64 m1.nv, .slice ha h1.length cha, .slice sa s1.length csa, .int .u64 m1.ns, .int .u64 m1.sweeps].toArray 27])) (fun v6 _ => s1.length - (intOf v6).toNat)
                  case atStart => exact ⟨0, rfl, Nat.zero_le _, Lib.hid (fun k kh kh2 hk => absurd hk (Nat.not_lt_zero _)), hz⟩
                  case round =>
                    clear hz
                    obtain ⟨j, rfl, hj, heq, hz⟩ := hrel
                    obtain ⟨hbX, -⟩ := hz.out.box 1 rfl
                    obtain ⟨hbY, -⟩ := hz.out.box 0 rfl
                    have xx : wr.cell? ⟨XB, 3, none⟩ = some (.slice sa s1.length csa) := box_cell hbX 3
                    have yy : wr.cell? ⟨YB, 3, none⟩ = some (.slice sb s2.length csb) := box_cell hbY 3
                    clear hbX hbY
                    by_cases hlt2 : j < s1.length
                    · have hlt3 : j < s2.length := by have := l12s.out; omega
                      obtain ⟨p, po, pc, hv, hcX⟩ := st_at (hS1.out wr hz.out.bel) hlt2
                      injection hv with hv1 hv2 hv3
                      subst hv1 hv3
                      obtain ⟨r, ro, rc, hv, hcY⟩ := st_at (hS2.out wr hz.out.bel) hlt3
                      injection hv with hv1 hv2 hv3
                      subst hv1 hv3
                      have hstep : Hid (s1[j] = s2[j] → ∀ k (kh : k < s1.length) (kh2 : k < s2.length), k < j + 1 → s1[k] = s2[k]) := Lib.hid (fun hs k kh kh2 hk => by
                        by_cases e : k = j
                        · subst e; exact hs
                        · exact heq.out k kh kh2 (by omega))
                      have hbad : Hid (s1[j] ≠ s2[j] → ¬ Pp) := Lib.hid (fun hs kp => hs (by
                        have kq := congrArg (fun l => l[j]?) (hst.out kp)
                        simp only [List.getElem?_eq_getElem hlt2, List.getElem?_eq_getElem hlt3, Option.some.injEq] at kq
                        exact kq))
                      obtain ⟨x, hx'⟩ : ∃ x, s1[j] = x := ⟨_, rfl⟩
                      obtain ⟨y, hy'⟩ : ∃ y, s2[j] = y := ⟨_, rfl⟩
                      rw [hx'] at hcX hstep hbad
                      rw [hy'] at hcY hstep hbad
                      obtain ⟨c0, c1, c2, c3, c4⟩ := hcX wr (Below.refl _ _)
                      obtain ⟨d0, d1, d2, d3, d4⟩ := hcY wr (Below.refl _ _)
                      have hi0 : (0 : Int) ≤ (j : Int) := by omega
                      have hi1 : (j : Int) < (s1.length : Int) := by omega
                      have hi2 : (j : Int) < (s2.length : Int) := by have := l12s.out; omega
                      clear hcX hcY hx' hy'
                      by_cases he : x = y
                      · subst he
                        have hs := Lib.hid (hstep.out rfl)
                        clear hstep hbad heq
                        go_wp2_with fail
                        go_quiet (fail)
                        go_wp2_with fail
                        go_roundw
                        case rel => exact ⟨j + 1, by go_num, by omega, hs, Lib.hid (hz.out.below (below_drewN (Below.refl _ _) nq))⟩
                        case measure => simp [intOf] <;> omega
                      · have hn := Lib.hid (hbad.out he)
                        have hbF := hz.out.bel
                        cases e0 : ((x.session : Int) == (y.session : Int)) with
                        | false =>
                          go_wp2_with fail
                          go_quiet (fail)
                          go_wp2_with fail
                          go_ret
                          have hbG := Lib.hid (below_drewN hbF nq)
                          first | exact ⟨false, rfl, Lib.hid (fun h => absurd h hn.out), hbG⟩ | (rw [← hMB]; exact ⟨false, rfl, Lib.hid (fun h => absurd h hn.out), hbG⟩)
                        | true =>
                          cases e1 : ((x.last : Int) == (y.last : Int)) with
                          | false =>
                            go_wp2_with fail
                            go_quiet (fail)
                            go_wp2_with fail
                            go_ret
                            have hbG := Lib.hid (below_drewN hbF nq)
                            first | exact ⟨false, rfl, Lib.hid (fun h => absurd h hn.out), hbG⟩ | (rw [← hMB]; exact ⟨false, rfl, Lib.hid (fun h => absurd h hn.out), hbG⟩)
                          | true =>
                            cases e2 : (x.node == y.node) with
                            | false =>
                              go_wp2_with fail
                              go_quiet (fail)
                              go_wp2_with fail
                              go_ret
                              have hbG := Lib.hid (below_drewN hbF nq)
                              first | exact ⟨false, rfl, Lib.hid (fun h => absurd h hn.out), hbG⟩ | (rw [← hMB]; exact ⟨false, rfl, Lib.hid (fun h => absurd h hn.out), hbG⟩)
                            | true =>
                              cases e3 : ((x.life : Int) == (y.life : Int)) with
                              | false =>
                                go_wp2_with fail
                                go_quiet (fail)
                                go_wp2_with fail
                                go_ret
                                have hbG := Lib.hid (below_drewN hbF nq)
                                first | exact ⟨false, rfl, Lib.hid (fun h => absurd h hn.out), hbG⟩ | (rw [← hMB]; exact ⟨false, rfl, Lib.hid (fun h => absurd h hn.out), hbG⟩)
                              | true =>
                                cases e4 : ((x.try_ : Int) == (y.try_ : Int)) with
                                | false =>
                                  go_wp2_with fail
                                  go_quiet (fail)
                                  go_wp2_with fail
                                  go_ret
                                  have hbG := Lib.hid (below_drewN hbF nq)
                                  first | exact ⟨false, rfl, Lib.hid (fun h => absurd h hn.out), hbG⟩ | (rw [← hMB]; exact ⟨false, rfl, Lib.hid (fun h => absurd h hn.out), hbG⟩)
                                | true =>
                                  refine absurd ?_ he
                                  obtain ⟨a0, a1, a2, a3, a4⟩ := x
                                  obtain ⟨z0, z1, z2, z3, z4⟩ := y
                                  obtain rfl : a0 = z0 := by have h := eq_of_beq e0; dsimp only at h; omega
                                  obtain rfl : a1 = z1 := by have h := eq_of_beq e1; dsimp only at h; omega
                                  obtain rfl : a2 = z2 := by have h := eq_of_beq e2; dsimp only at h; omega
                                  obtain rfl : a3 = z3 := by have h := eq_of_beq e3; dsimp only at h; omega
                                  obtain rfl : a4 = z4 := by have h := eq_of_beq e4; dsimp only at h; omega
                                  rfl
                    · obtain rfl : j = s1.length := by omega
                      go_wp2_with fail
                      clear xx yy
                      go_loopw [7] (fun v7 wr => ∃ j : Nat, v7 = .int .i64 j ∧ j ≤ h1.length ∧ Hid (∀ k (kh : k < h1.length) (kh2 : k < h2.length), k < j → h1[k] = h2[k]) ∧ Hid (Zoo W wr [boxT YB [.slice ab b2.length cb, .int .u64 m2.nv, .slice hb h2.length chb, .slice sb s2.length csb, .int .u64 m2.ns, .int .u64 m2.sweeps].toArray 27, boxT XB [.slice aa b1.length ca, .int .u64 m1.nv, .slice ha h1.length cha, .slice sa s1.length csa, .int .u64 m1.ns, .int .u64 m1.sweeps].toArray 27])) (fun v7 _ => h1.length - (intOf v7).toNat)
                      case atStart => exact ⟨0, rfl, Nat.zero_le _, Lib.hid (fun k kh kh2 hk => absurd hk (Nat.not_lt_zero _)), hz⟩
                      case round =>
                        clear hz
                        obtain ⟨j, rfl, hj, heq, hz⟩ := hrel
                        obtain ⟨hbX, -⟩ := hz.out.box 1 rfl
                        obtain ⟨hbY, -⟩ := hz.out.box 0 rfl
                        have xx : wr.cell? ⟨XB, 2, none⟩ = some (.slice ha h1.length cha) := box_cell hbX 2
                        have yy : wr.cell? ⟨YB, 2, none⟩ = some (.slice hb h2.length chb) := box_cell hbY 2
                        clear hbX hbY
                        by_cases hlt2 : j < h1.length
                        · have hlt3 : j < h2.length := by have := l12h.out; omega
                          obtain ⟨p, po, pc, hv, hcX⟩ := hm_at (hH1.out wr hz.out.bel) hlt2
                          injection hv with hv1 hv2 hv3
                          subst hv1 hv3
                          obtain ⟨r, ro, rc, hv, hcY⟩ := hm_at (hH2.out wr hz.out.bel) hlt3
                          injection hv with hv1 hv2 hv3
                          subst hv1 hv3
                          have hstep : Hid (h1[j] = h2[j] → ∀ k (kh : k < h1.length) (kh2 : k < h2.length), k < j + 1 → h1[k] = h2[k]) := Lib.hid (fun hs k kh kh2 hk => by
                            by_cases e : k = j
                            · subst e; exact hs
                            · exact heq.out k kh kh2 (by omega))
                          have hbad : Hid (h1[j] ≠ h2[j] → ¬ Pp) := Lib.hid (fun hs kp => hs (by
                            have kq := congrArg (fun l => l[j]?) (hhm.out kp)
                            simp only [List.getElem?_eq_getElem hlt2, List.getElem?_eq_getElem hlt3, Option.some.injEq] at kq
                            exact kq))
                          obtain ⟨x, hx'⟩ : ∃ x, h1[j] = x := ⟨_, rfl⟩
                          obtain ⟨y, hy'⟩ : ∃ y, h2[j] = y := ⟨_, rfl⟩
                          rw [hx'] at hcX hstep hbad
                          rw [hy'] at hcY hstep hbad
                          obtain ⟨c0, c1, c2⟩ := hcX wr (Below.refl _ _)
                          obtain ⟨d0, d1, d2⟩ := hcY wr (Below.refl _ _)
                          have hi0 : (0 : Int) ≤ (j : Int) := by omega
                          have hi1 : (j : Int) < (h1.length : Int) := by omega
                          have hi2 : (j : Int) < (h2.length : Int) := by have := l12h.out; omega
                          clear hcX hcY hx' hy'
                          by_cases he : x = y
                          · subst he
                            have hs := Lib.hid (hstep.out rfl)
                            clear hstep hbad heq
                            go_wp2_with fail
                            go_quiet (fail)
                            go_wp2_with fail
                            go_roundw
                            case rel => exact ⟨j + 1, by go_num, by omega, hs, Lib.hid (hz.out.below (below_drewN (Below.refl _ _) nq))⟩
                            case measure => simp [intOf] <;> omega
                          · have hn := Lib.hid (hbad.out he)
                            have hbF := hz.out.bel
                            cases e0 : (x.node == y.node) with
                            | false =>
                              go_wp2_with fail
                              go_quiet (fail)
                              go_wp2_with fail
                              go_ret
                              have hbG := Lib.hid (below_drewN hbF nq)
                              first | exact ⟨false, rfl, Lib.hid (fun h => absurd h hn.out), hbG⟩ | (rw [← hMB]; exact ⟨false, rfl, Lib.hid (fun h => absurd h hn.out), hbG⟩)
                            | true =>
                              cases e1 : ((x.life : Int) == (y.life : Int)) with
                              | false =>
                                go_wp2_with fail
                                go_quiet (fail)
                                go_wp2_with fail
                                go_ret
                                have hbG := Lib.hid (below_drewN hbF nq)
                                first | exact ⟨false, rfl, Lib.hid (fun h => absurd h hn.out), hbG⟩ | (rw [← hMB]; exact ⟨false, rfl, Lib.hid (fun h => absurd h hn.out), hbG⟩)
                              | true =>
                                cases e2 : ((x.try_ : Int) == (y.try_ : Int)) with
                                | false =>
                                  go_wp2_with fail
                                  go_quiet (fail)
                                  go_wp2_with fail
                                  go_ret
                                  have hbG := Lib.hid (below_drewN hbF nq)
                                  first | exact ⟨false, rfl, Lib.hid (fun h => absurd h hn.out), hbG⟩ | (rw [← hMB]; exact ⟨false, rfl, Lib.hid (fun h => absurd h hn.out), hbG⟩)
                                | true =>
                                  refine absurd ?_ he
                                  obtain ⟨a0, a1, a2⟩ := x
                                  obtain ⟨z0, z1, z2⟩ := y
                                  obtain rfl : a0 = z0 := by have h := eq_of_beq e0; dsimp only at h; omega
                                  obtain rfl : a1 = z1 := by have h := eq_of_beq e1; dsimp only at h; omega
                                  obtain rfl : a2 = z2 := by have h := eq_of_beq e2; dsimp only at h; omega
                                  rfl
                        · obtain rfl : j = h1.length := by omega
                          have hbF := Lib.hid hz.out.bel
                          go_wp2_with fail
                          go_ret
                          first | exact ⟨true, rfl, Lib.hid (fun _ => rfl), hbF⟩ | (rw [← hMB]; exact ⟨true, rfl, Lib.hid (fun _ => rfl), hbF⟩)
end Go.Proofs.YtdobbfjmlnlieaaGreat
namespace Go.Proofs.YtdobbfjmlnlieaaGreat
set_option linter.unusedSimpArgs false
open Go.RowKit
attribute [local go_sem ↓] Go.wp_at_zero Go.wp_at_succ

set_option maxRecDepth 100000 in
set_option maxHeartbeats 16000000 in
theorem sameOc_yes {W : World} (v1 v2 : Value) {o : Oc} (h1 : OcIn W v1 o) (h2 : OcIn W v2 o) (hu : o.uids.length ≤ 9223372036854775807) (hm : o.mods.length ≤ 9223372036854775807) :
    Calls Tryz.prog 18 #[v1, v2] W fun e w' => e = .returned (.bool true) ∧ Hid (Below W.heap.size W w') := by
  obtain ⟨aU, cU, aM, cM, rfl, hU, hM⟩ := h1
  obtain ⟨bU, dU, bM, dM, rfl, hU2, hM2⟩ := h2
  rw [cells_u64] at hU hM hU2 hM2
  have hz2 := ((Zoo.nil W).newBox [.int .i64 o.code, .int .u64 o.session, .int .u64 o.validity, .slice aU o.uids.length cU, .slice aM o.mods.length cM].toArray 35).newBox [.int .i64 o.code, .int .u64 o.session, .int .u64 o.validity, .slice bU o.uids.length dU, .slice bM o.mods.length dM].toArray 35
  have hsu : Hid (∀ w, Below W.heap.size W w → Calls Tryz.prog 30 #[.slice aU o.uids.length cU, .slice bU o.uids.length dU] w fun e w' => e = .returned (.bool true) ∧ Below w.heap.size w w') := Lib.hid (fun w h => by
    have := sameNums_any _ _ o.uids o.uids w (hU.below h) (hU2.below h) hu
    rwa [decide_eq_true rfl] at this)
  have hsm : Hid (∀ w, Below W.heap.size W w → Calls Tryz.prog 30 #[.slice aM o.mods.length cM, .slice bM o.mods.length dM] w fun e w' => e = .returned (.bool true) ∧ Below w.heap.size w w') := Lib.hid (fun w h => by
    have := sameNums_any _ _ o.mods o.mods w (hM.below h) (hM2.below h) hm
    rwa [decide_eq_true rfl] at this)
  generalize hMB : W.heap.size = XB at hz2
  generalize hRB : (W.alloc (.cells [.int .i64 o.code, .int .u64 o.session, .int .u64 o.validity, .slice aU o.uids.length cU, .slice aM o.mods.length cM].toArray 35)).heap.size = YB at hz2
  generalize hWb : ((W.alloc (.cells [.int .i64 o.code, .int .u64 o.session, .int .u64 o.validity, .slice aU o.uids.length cU, .slice aM o.mods.length cM].toArray 35)).alloc (.cells [.int .i64 o.code, .int .u64 o.session, .int .u64 o.validity, .slice bU o.uids.length dU, .slice bM o.mods.length dM].toArray 35)) = Wb at hz2
  obtain ⟨hbX, -⟩ := hz2.box 1 rfl
  obtain ⟨hbY, -⟩ := hz2.box 0 rfl
  have x0 : Wb.cell? ⟨XB, 0, none⟩ = some (.int .i64 o.code) := box_cell hbX 0
  have x1 : Wb.cell? ⟨XB, 1, none⟩ = some (.int .u64 o.session) := box_cell hbX 1
  have x2 : Wb.cell? ⟨XB, 2, none⟩ = some (.int .u64 o.validity) := box_cell hbX 2
  have x3 : Wb.cell? ⟨XB, 3, none⟩ = some (.slice aU o.uids.length cU) := box_cell hbX 3
  have y0 : Wb.cell? ⟨YB, 0, none⟩ = some (.int .i64 o.code) := box_cell hbY 0
  have y1 : Wb.cell? ⟨YB, 1, none⟩ = some (.int .u64 o.session) := box_cell hbY 1
  have y2 : Wb.cell? ⟨YB, 2, none⟩ = some (.int .u64 o.validity) := box_cell hbY 2
  have y3 : Wb.cell? ⟨YB, 3, none⟩ = some (.slice bU o.uids.length dU) := box_cell hbY 3
  have hbel := Lib.hid hz2.bel
  replace hz2 := Lib.hid hz2
  clear hbX hbY hU hM hU2 hM2 hu hm
  go_enter Tryz.func18, Tryz.ntmps18
  go_upto_region 1 with fail
  clear hWb hRB
  go_wp2_with fail
  refine (hsu.out Wb hbel.out).mono ?_
  rintro e w3 ⟨rfl, hb3⟩
  dsimp only
  have hz3 := Lib.hid (hz2.out.below hb3)
  have hbel3 := Lib.hid (hbel.out.trans (hb3.mono hbel.out.size))
  obtain ⟨hbX, -⟩ := hz3.out.box 1 rfl
  obtain ⟨hbY, -⟩ := hz3.out.box 0 rfl
  clear x0 x1 x2 x3 y0 y1 y2 y3 hb3
  have x4 : w3.cell? ⟨XB, 4, none⟩ = some (.slice aM o.mods.length cM) := box_cell hbX 4
  have y4 : w3.cell? ⟨YB, 4, none⟩ = some (.slice bM o.mods.length dM) := box_cell hbY 4
  clear hbX hbY
  go_wp2_with fail
  refine (hsm.out w3 hbel3.out).mono ?_
  rintro e w4 ⟨rfl, hb4⟩
  dsimp only
  have hbF := Lib.hid (hz3.out.below hb4).bel
  clear x4 y4 hz3 hb4
  go_wp2_with fail
  go_ret
  first | exact ⟨rfl, hbF⟩ | (rw [← hMB]; exact ⟨rfl, hbF⟩)
end Go.Proofs.YtdobbfjmlnlieaaGreat
