/- mail.Right, asked about a right state: walked. (written by tools/gen_MnG.py) -/
import Derived.Test.YtpkaoiadjffjiaaGreatB09
import Derived.Test.YtpkaoiadjffjiaaGreatB06
namespace Go.Proofs.YtpkaoiadjffjiaaGreat
set_option linter.unusedSimpArgs false
open Go.RowKit
attribute [local go_sem ↓] Go.wp_at_zero Go.wp_at_succ

theorem rd_take2 {α : Type} (R : RT α) {W : World} {a : Option Addr} {n c : Nat} {l : List α} (h : Rd W (.slice a n c) l.length (R.cells l)) {i : Nat} (hi : i ≤ l.length) : Rd W (.slice a (l.take i).length c) (l.take i).length (R.cells (l.take i)) := by
  obtain ⟨a', c', hv, h⟩ := h
  injection hv with e1 e2 e3
  subst e1 e3
  refine ⟨a, c, rfl, ?_⟩
  rcases h with h | ⟨b, o, ha, hb, hle, hc⟩
  · left; rw [List.length_take]; omega
  · refine .inr ⟨b, o, ha, hb, by rw [List.length_take]; omega, fun j u hu => hc j u ?_⟩
    have hsp : R.cells l = R.cells (l.take i) ++ R.cells (l.drop i) := by rw [← R.cells_app, List.take_append_drop]
    rw [hsp, List.getElem?_append_left (List.getElem?_eq_some_iff.1 hu).1]
    exact hu
/-- mailbox j of a row, and its cells -/
theorem bx_at {W : World} {v : Value} {l : List BxV} (h : BxsIn W v l) {j : Nat} (hj : j < l.length) : ∃ b bo cap, v = .slice (some ⟨b, bo, none⟩) l.length cap ∧ l.length ≤ cap ∧ ∀ W', Below W.heap.size W W' → W'.cell? ⟨b, bo + j * 5, none⟩ = some (.string l[j].name) ∧ W'.cell? ⟨b, bo + j * 5 + 1, none⟩ = some (.int .u64 l[j].validity) ∧ W'.cell? ⟨b, bo + j * 5 + 2, none⟩ = some (.int .u64 l[j].next) ∧ W'.cell? ⟨b, bo + j * 5 + 3, none⟩ = some (.int .u64 l[j].high) ∧ W'.cell? ⟨b, bo + j * 5 + 4, none⟩ = some (.slice l[j].a l[j].rows.length l[j].c) := by
  obtain ⟨b, bo, cap, hv, hcap, hbl, hc⟩ := bxT.rd_cells h.1 hj
  refine ⟨b, bo, cap, hv, hcap, fun W' hb => ?_⟩
  have hk : ∀ r u, (bxT.enc l[j])[r]? = some u → W'.cell? ⟨b, bo + j * 5 + r, none⟩ = some u := fun r u hu => by
    rw [Nat.add_assoc]
    exact (hb.cell (p := ⟨b, bo + (j * 5 + r), none⟩) hbl).trans (hc r u hu)
  exact ⟨hk 0 _ rfl, hk 1 _ rfl, hk 2 _ rfl, hk 3 _ rfl, hk 4 _ rfl⟩
set_option maxRecDepth 100000 in
set_option maxHeartbeats 16000000 in
theorem right_yes {W : World} (v : Value) {m : Ml} (hin : MlIn W v m) (hr : RightP m) : Calls Tryz.prog 10 #[v] W fun e w' => e = .returned (.bool true) ∧ Hid (Below W.heap.size W w') := by
  have hin0 : Hid (∀ w', Below W.heap.size W w' → MlIn w' v m) := Lib.hid (fun w' h => hin.below h)
  obtain ⟨vb, vh, vs, bs, rfl, hbs, hib, hih, his⟩ := hin
  have hib0 : ∀ w', Below W.heap.size W w' → BxsIn w' vb bs := fun w' h => hib.below h
  obtain ⟨ab, cb, rfl, -⟩ := hib.1
  obtain ⟨ah, ch, rfl, -⟩ := hih
  obtain ⟨as_, cs, rfl, -⟩ := his
  replace hib0 := Lib.hid hib0
  unfold mlVal at hin0 ⊢
  have hlb : bs.length = m.boxes.length := by rw [← hbs, List.length_map]
  have hz1 := (Zoo.nil W).newBox [.slice ab bs.length cb, .int .u64 m.nv, .slice ah m.homes.length ch, .slice as_ m.seats.length cs, .int .u64 m.ns, .int .u64 m.sweeps].toArray 27
  generalize hMB : W.heap.size = MB at hz1
  generalize hWa : (W.alloc (.cells [.slice ab bs.length cb, .int .u64 m.nv, .slice ah m.homes.length ch, .slice as_ m.seats.length cs, .int .u64 m.ns, .int .u64 m.sweeps].toArray 27)) = Wa at hz1
  obtain ⟨hbB, -⟩ := hz1.box 0 rfl
  have x0 : Wa.cell? ⟨MB, 0, none⟩ = some (.slice ab bs.length cb) := box_cell hbB 0
  have x1 : Wa.cell? ⟨MB, 1, none⟩ = some (.int .u64 m.nv) := box_cell hbB 1
  have x2 : Wa.cell? ⟨MB, 2, none⟩ = some (.slice ah m.homes.length ch) := box_cell hbB 2
  have x3 : Wa.cell? ⟨MB, 3, none⟩ = some (.slice as_ m.seats.length cs) := box_cell hbB 3
  have x4 : Wa.cell? ⟨MB, 4, none⟩ = some (.int .u64 m.ns) := box_cell hbB 4
  have x5 : Wa.cell? ⟨MB, 5, none⟩ = some (.int .u64 m.sweeps) := box_cell hbB 5
  have hpos : 1 ≤ bs.length := by
    obtain ⟨b, hb, -⟩ := hr.inbox
    have := List.length_pos_of_mem hb
    omega
  have l8 : bs.length ≤ 8 := by have := hr.lb; omega
  have q1 : decide ((bs.length : Int) < 1) = false := decide_eq_false (by omega)
  have q1' : decide (bs.length < 1) = false := decide_eq_false (by omega)
  have q2 : decide ((8 : Int) < (bs.length : Int)) = false := decide_eq_false (by omega)
  have q3 : decide ((4294967296 : Int) < (m.nv : Int)) = false := decide_eq_false (by have := hr.nv; omega)
  have q4 : decide ((m.ns : Int) < 1) = false := decide_eq_false (by have := hr.ns1; omega)
  have q5 : decide ((4611686018427387904 : Int) < (m.ns : Int)) = false := decide_eq_false (by have := hr.ns2; omega)
  have q6 : decide ((9223372036854775807 : Int) < (m.sweeps : Int)) = false := decide_eq_false (by have := hr.sw; omega)
  have q7 : decide ((16 : Int) < (m.seats.length : Int)) = false := decide_eq_false (by have := hr.ls; omega)
  replace hr := Lib.hid hr
  replace hz1 := Lib.hid hz1
  replace hbs := Lib.hid hbs
  replace hlb := Lib.hid hlb
  clear hib hbB
  go_enter Tryz.func10, Tryz.ntmps10
  go_upto_region 1 with fail
  clear hWa
  go_wp2_with fail
  clear x0 x1 x2 x3 x4 x5 q1 q1' q2 q3 q4 q5 q6 q7 hpos
  go_loopw [3, 46] (fun v3 v46 wr => ∃ (j : Nat) (ib : Bool), v46 = .int .i64 j ∧ v3 = .bool ib ∧ j ≤ bs.length ∧ Hid (ib = (m.boxes.take j).any isInbox) ∧ Hid (Zoo W wr [boxT MB [.slice ab bs.length cb, .int .u64 m.nv, .slice ah m.homes.length ch, .slice as_ m.seats.length cs, .int .u64 m.ns, .int .u64 m.sweeps].toArray 27])) (fun _ v46 _ => bs.length - (intOf v46).toNat)
  case atStart => exact ⟨0, false, rfl, rfl, Nat.zero_le _, Lib.hid (by simp), hz1⟩
  case round =>
    clear hz1
    obtain ⟨j, ib, rfl, rfl, hj, hib, hz⟩ := hrel
    obtain ⟨hbB, -⟩ := hz.out.box 0 rfl
    by_cases hlt : j < bs.length
    · have hin1 := hib0.out wr hz.out.bel
      obtain ⟨b, bo, cap, hv, hcap, hc⟩ := bx_at hin1 hlt
      injection hv with hv1 hv2 hv3
      subst hv1 hv3
      have hmx : m.boxes[j]? = some bs[j].b := by rw [← hbs.out, List.getElem?_map, List.getElem?_eq_getElem hlt]; rfl
      have hjm : j < m.boxes.length := (List.getElem?_eq_some_iff.1 hmx).1
      have hmx2 : m.boxes[j] = bs[j].b := (List.getElem?_eq_some_iff.1 hmx).2
      have hP := hr.out.boxes _ (List.getElem_mem hjm)
      rw [hmx2] at hP
      have hlets := hin1.2 _ (List.getElem_mem hlt)
      have hget : ∀ k (hk : k < bs.length), ∃ hm : k < m.boxes.length, m.boxes[k] = bs[k].b := fun k hk => by
        have h1 : m.boxes[k]? = some bs[k].b := by rw [← hbs.out, List.getElem?_map, List.getElem?_eq_getElem hk]; rfl
        exact List.getElem?_eq_some_iff.1 h1
      have hprev : 0 < j → ∃ u : ByteArray, (∀ W', Below wr.heap.size wr W' → W'.cell? ⟨b, bo + (j - 1) * 5, none⟩ = some (.string u)) ∧ Op.bytesLess u.toList bs[j].name.toList = true := by
        intro hjp
        have hkl : j - 1 < bs.length := by omega
        obtain ⟨b', bo', cap', hv', -, hc'⟩ := bx_at hin1 hkl
        injection hv' with h1 h2 h3
        injection h1 with h1
        injection h1 with h1 h4
        subst h1 h4
        refine ⟨bs[j - 1].name, fun W' hb => (hc' W' hb).1, ?_⟩
        obtain ⟨hm, e⟩ := hget (j - 1) hkl
        have := List.pairwise_iff_getElem.1 hr.out.names (j - 1) j hm hjm (by omega)
        rw [e, hmx2] at this
        rw [bytesLess_eq, ByteArray.toList_eq, ByteArray.toList_eq]
        exact this
      have htw : ∀ x ∈ bs.take j, x.validity ≠ bs[j].validity := by
        intro x hx
        obtain ⟨k, hk, rfl⟩ := List.mem_iff_getElem.1 hx
        rw [List.length_take] at hk
        rw [List.getElem_take]
        obtain ⟨hm, e⟩ := hget k (by omega)
        have := List.pairwise_iff_getElem.1 hr.out.vals k j hm hjm (by omega)
        rw [e, hmx2] at this
        exact this
      have hany : (m.boxes.take (j + 1)).any isInbox = ((m.boxes.take j).any isInbox || isInbox bs[j].b) := by rw [List.take_succ_eq_append_getElem hjm, List.any_append, hmx2]; simp
      obtain ⟨x, hx'⟩ : ∃ x, bs[j] = x := ⟨_, rfl⟩
      rw [hx'] at hc hP hprev hlets htw hany
      obtain ⟨r0, r1, r2, r3, r4⟩ := hc wr (Below.refl _ _)
      obtain ⟨tst, htst⟩ : ∃ tst, (x.name.toList == [73, 78, 66, 79, 88]) = tst := ⟨_, rfl⟩
      have hib2 : Hid ((ib || tst) = (m.boxes.take (j + 1)).any isInbox) := Lib.hid (by rw [hany, ← hib.out, ← htst]; unfold isInbox; rw [ByteArray.toList_eq]; rfl)
      have hcall : Hid (∀ w', Below wr.heap.size wr w' → Calls Tryz.prog 45 #[.agg #[.string x.name, .int .u64 x.validity, .int .u64 x.next, .int .u64 x.high, .slice x.a x.rows.length x.c], .int .u64 m.nv] w' fun e w2 => e = .returned (.bool true) ∧ Hid (Below w'.heap.size w' w2)) := Lib.hid (fun w' hb => boxRight_yes x m.nv hP (hlets.below hb))
      have hj0 : (0 : Int) ≤ (j : Int) := by omega
      have hj1 : (j : Int) < (bs.length : Int) := by omega
      have hjc : (j : Int) ≤ (cb : Int) := by omega
      have hjc3 : j ≤ cb := by omega
      have htake : Hid (∀ w', Below W.heap.size W w' → Rd w' (.slice (some ⟨b, bo, none⟩) (bs.take j).length cb) (bs.take j).length (bxT.cells (bs.take j))) := Lib.hid (fun w' h => rd_take2 bxT (hib0.out w' h).1 hj)
      rw [show (bs.take j).length = j from by rw [List.length_take]; omega] at htake
      replace hprev := Lib.hid hprev
      replace htw := Lib.hid htw
      have hzb := Lib.hid (hz.out.newBox [.string x.name, .int .u64 x.validity, .int .u64 x.next, .int .u64 x.high, .slice x.a x.rows.length x.c].toArray 40)
      have hbw := Lib.hid ((Below.refl wr.heap.size wr).alloc (Nat.le_refl _) (.cells [.string x.name, .int .u64 x.validity, .int .u64 x.next, .int .u64 x.high, .slice x.a x.rows.length x.c].toArray 40))
      clear hc hP hin1 hx' hbB hany hget hmx hmx2 hjm hlets hib
      go_upto_region 7 with fail
      generalize hLbE : wr.heap.size = Lb at hzb hprev hbw hcall ⊢
      generalize (wr.alloc (.cells [.string x.name, .int .u64 x.validity, .int .u64 x.next, .int .u64 x.high, .slice x.a x.rows.length x.c].toArray 40)) = wl at hzb hbw ⊢
      clear r0 r1 r2 r3 r4
      obtain ⟨hbL, -⟩ := hzb.out.box 0 rfl
      obtain ⟨hbB, -⟩ := hzb.out.box 1 rfl
      have y0 : wl.cell? ⟨Lb, 0, none⟩ = some (.string x.name) := box_cell hbL 0
      have x0 : wl.cell? ⟨MB, 0, none⟩ = some (.slice (some ⟨b, bo, none⟩) bs.length cb) := box_cell hbB 0
      have htwc := Lib.hid (noTwin_any (.slice (some ⟨b, bo, none⟩) j cb) (bs.take j) x.validity Lb (by rw [List.length_take]; omega) wl (by have := htake.out wl hzb.out.bel; rw [show (bs.take j).length = j from by rw [List.length_take]; omega]; exact this) (box_cell hbL 1) htw.out)
      clear hbL hbB
      go_cut [3] (fun v3 wx => v3 = .bool (ib || tst) ∧ wx = wl)
      case first =>
        cases ib with
        | true =>
          go_wp2_with fail
          go_meet
          case rel => exact ⟨rfl, rfl⟩
        | false =>
          cases tst with
          | true =>
            go_wp2_with fail
            go_meet
            case rel => exact ⟨rfl, rfl⟩
          | false =>
            go_wp2_with fail
            go_meet
            case rel => exact ⟨rfl, rfl⟩
      case rest =>
      obtain ⟨rfl, rfl⟩ := hcut
      clear htst
      go_wp2_with fail
      refine htwc.out.mono ?_
      rintro e w7 ⟨rfl, hb7⟩
      dsimp only
      have hz7 := Lib.hid (hzb.out.below hb7.out)
      have hbw7 := Lib.hid (hbw.out.trans (hb7.out.mono (by first | exact hbw.out.size | (rw [← hLbE]; exact hbw.out.size))))
      clear y0 x0 htwc hzb hbw hb7 htw htake hz
      go_upto_region 9 with fail
      have hzd := hz7.out.drew
      have hbd := hbw7.out.drew
      clear hz7 hbw7
      obtain ⟨hbL, -⟩ := hzd.box 0 rfl
      obtain ⟨hbB, -⟩ := hzd.box 1 rfl
      rcases Nat.eq_zero_or_pos j with rfl | hjp
      · clear hprev
        refine wp_region_hd (fun w' => w'.cell? ⟨Lb, 0, none⟩ = some (.string x.name) ∧ w'.cell? ⟨Lb, 1, none⟩ = some (.int .u64 x.validity) ∧ w'.cell? ⟨Lb, 2, none⟩ = some (.int .u64 x.next) ∧ w'.cell? ⟨Lb, 3, none⟩ = some (.int .u64 x.high) ∧ w'.cell? ⟨Lb, 4, none⟩ = some (.slice x.a x.rows.length x.c) ∧ w'.cell? ⟨MB, 0, none⟩ = some (.slice (some ⟨b, bo, none⟩) bs.length cb) ∧ w'.cell? ⟨MB, 1, none⟩ = some (.int .u64 m.nv)) 23 1 (by kernel_rfl) rfl ⟨by kernel_rfl, by kernel_rfl, by kernel_rfl, by decide⟩ ⟨box_cell hbL 0, box_cell hbL 1, box_cell hbL 2, box_cell hbL 3, box_cell hbL 4, box_cell hbB 0, box_cell hbB 1⟩ (fun hok hS0 => ?_)
        generalize w7.drew = Wd at *
        refine Hd.take (i := 0) (v := ?tv27) hok rfl (by kernel_rfl) (fun _ _ _ h => h) (Or.inl ⟨by rfl, ?ty27⟩) (by assumption) ?tr27
        case ty27 => (intro w hSw; (try dsimp only at hSw); go_simp; (try with_reducible rfl))
        try simp only [List.getElem_toArray, List.getElem_cons_succ, List.getElem_cons_zero, Act.put, List.setIfInBounds_toArray, List.set_cons_zero, List.set_cons_succ]
        refine Hd.take (i := 1) (v := ?tv28) hok rfl (by kernel_rfl) (fun _ _ _ h => h) (Or.inl ⟨by rfl, ?ty28⟩) (by assumption) ?tr28
        case ty28 => (intro w hSw; (try dsimp only at hSw); go_simp; (try with_reducible rfl))
        try simp only [List.getElem_toArray, List.getElem_cons_succ, List.getElem_cons_zero, Act.put, List.setIfInBounds_toArray, List.set_cons_zero, List.set_cons_succ]
        refine Hd.take (i := 2) (v := ?tv29) hok rfl (by kernel_rfl) (fun _ _ _ h => h) (Or.inl ⟨by rfl, ?ty29⟩) (by assumption) ?tr29
        case ty29 => (intro w hSw; (try dsimp only at hSw); go_simp; (try with_reducible rfl))
        try simp only [List.getElem_toArray, List.getElem_cons_succ, List.getElem_cons_zero, Act.put, List.setIfInBounds_toArray, List.set_cons_zero, List.set_cons_succ]
        refine Hd.take (i := 3) (v := ?tv30) hok rfl (by kernel_rfl) (fun _ _ _ h => h) (Or.inl ⟨by rfl, ?ty30⟩) (by assumption) ?tr30
        case ty30 => (intro w hSw; (try dsimp only at hSw); go_simp; (try with_reducible rfl))
        try simp only [List.getElem_toArray, List.getElem_cons_succ, List.getElem_cons_zero, Act.put, List.setIfInBounds_toArray, List.set_cons_zero, List.set_cons_succ]
        refine Hd.take (i := 4) (v := ?tv31) hok rfl (by kernel_rfl) (fun _ _ _ h => h) (Or.inl ⟨by rfl, ?ty31⟩) (by assumption) ?tr31
        case ty31 => (intro w hSw; (try dsimp only at hSw); go_simp; (try with_reducible rfl))
        try simp only [List.getElem_toArray, List.getElem_cons_succ, List.getElem_cons_zero, Act.put, List.setIfInBounds_toArray, List.set_cons_zero, List.set_cons_succ]
        refine Hd.one (i := 5) rfl (by kernel_rfl) (fun K hK => ?_)
        go_simp
        refine (hcall.out _ hbd).mono ?_
        rintro e w8 ⟨rfl, hb8⟩
        dsimp only
        have hz8 := hzd.below hb8.out
        have hbd8 := hbd.trans (hb8.out.mono (by first | exact hbd.size | (rw [← hLbE]; exact hbd.size)))
        clear hbL hbB
        obtain ⟨hbL, -⟩ := hz8.box 0 rfl
        obtain ⟨hbB, -⟩ := hz8.box 1 rfl
        have hS1 : w8.cell? ⟨Lb, 0, none⟩ = some (.string x.name) ∧ w8.cell? ⟨Lb, 1, none⟩ = some (.int .u64 x.validity) ∧ w8.cell? ⟨Lb, 2, none⟩ = some (.int .u64 x.next) ∧ w8.cell? ⟨Lb, 3, none⟩ = some (.int .u64 x.high) ∧ w8.cell? ⟨Lb, 4, none⟩ = some (.slice x.a x.rows.length x.c) ∧ w8.cell? ⟨MB, 0, none⟩ = some (.slice (some ⟨b, bo, none⟩) bs.length cb) ∧ w8.cell? ⟨MB, 1, none⟩ = some (.int .u64 m.nv) := ⟨box_cell hbL 0, box_cell hbL 1, box_cell hbL 2, box_cell hbL 3, box_cell hbL 4, box_cell hbB 0, box_cell hbB 1⟩
        refine hK _ _ hS1 ?_
        clear hK K hS0
        try simp only [List.getElem_toArray, List.getElem_cons_succ, List.getElem_cons_zero, Act.put, List.setIfInBounds_toArray, List.set_cons_zero, List.set_cons_succ]
        refine Hd.take (i := 6) (v := ?tv32) hok rfl (by kernel_rfl) (fun _ _ _ h => h) (Or.inl ⟨by rfl, ?ty32⟩) (by assumption) ?tr32
        case ty32 => (intro w hSw; (try dsimp only at hSw); go_simp; (try with_reducible rfl))
        try simp only [List.getElem_toArray, List.getElem_cons_succ, List.getElem_cons_zero, Act.put, List.setIfInBounds_toArray, List.set_cons_zero, List.set_cons_succ]
        refine Hd.take (i := 7) (v := ?tv33) hok rfl (by kernel_rfl) (fun _ _ _ h => h) (Or.inl ⟨by rfl, ?ty33⟩) (by assumption) ?tr33
        case ty33 => (intro w hSw; (try dsimp only at hSw); go_simp; (try with_reducible rfl))
        try simp only [List.getElem_toArray, List.getElem_cons_succ, List.getElem_cons_zero, Act.put, List.setIfInBounds_toArray, List.set_cons_zero, List.set_cons_succ]
        refine Hd.take (i := 8) (v := ?tv34) hok rfl (by kernel_rfl) (fun _ _ _ h => h) (Or.inl ⟨by rfl, ?ty34⟩) (by assumption) ?tr34
        case ty34 => (intro w hSw; (try dsimp only at hSw); go_simp; (try with_reducible rfl))
        try simp only [List.getElem_toArray, List.getElem_cons_succ, List.getElem_cons_zero, Act.put, List.setIfInBounds_toArray, List.set_cons_zero, List.set_cons_succ]
        refine Hd.take (i := 9) (v := ?tv35) hok rfl (by kernel_rfl) (fun _ _ _ h => h) (Or.inl ⟨by rfl, ?ty35⟩) (by assumption) ?tr35
        case ty35 => (intro w hSw; (try dsimp only at hSw); go_simp; (try with_reducible rfl))
        try simp only [List.getElem_toArray, List.getElem_cons_succ, List.getElem_cons_zero, Act.put, List.setIfInBounds_toArray, List.set_cons_zero, List.set_cons_succ]
        refine Hd.take (i := 10) (v := ?tv36) hok rfl (by kernel_rfl) (fun _ _ _ h => h) (Or.inl ⟨by rfl, ?ty36⟩) (by assumption) ?tr36
        case ty36 => (intro w hSw; (try dsimp only at hSw); go_simp; (try with_reducible rfl))
        try simp only [List.getElem_toArray, List.getElem_cons_succ, List.getElem_cons_zero, Act.put, List.setIfInBounds_toArray, List.set_cons_zero, List.set_cons_succ]
        refine Hd.take (i := 11) (v := ?tv37) hok rfl (by kernel_rfl) (fun _ _ _ h => h) (Or.inl ⟨by rfl, ?ty37⟩) (by assumption) ?tr37
        case ty37 => (intro w hSw; (try dsimp only at hSw); go_simp; (try with_reducible rfl))
        try simp only [List.getElem_toArray, List.getElem_cons_succ, List.getElem_cons_zero, Act.put, List.setIfInBounds_toArray, List.set_cons_zero, List.set_cons_succ]
        refine Hd.take (i := 12) (v := _) hok rfl (by kernel_rfl) (fun _ _ _ h => h) (Or.inr ⟨by rfl, rfl⟩) (by assumption) ?_
        try simp only [List.getElem_toArray, List.getElem_cons_succ, List.getElem_cons_zero, Act.put, List.setIfInBounds_toArray, List.set_cons_zero, List.set_cons_succ]
        refine Hd.take (i := 13) (v := _) hok rfl (by kernel_rfl) (fun _ _ _ h => h) (Or.inr ⟨by rfl, rfl⟩) (by assumption) ?_
        try simp only [List.getElem_toArray, List.getElem_cons_succ, List.getElem_cons_zero, Act.put, List.setIfInBounds_toArray, List.set_cons_zero, List.set_cons_succ]
        refine Hd.take (i := 14) (v := _) hok rfl (by kernel_rfl) (fun _ _ _ h => h) (Or.inr ⟨by rfl, rfl⟩) (by assumption) ?_
        try simp only [List.getElem_toArray, List.getElem_cons_succ, List.getElem_cons_zero, Act.put, List.setIfInBounds_toArray, List.set_cons_zero, List.set_cons_succ]
        refine Hd.take (i := 15) (v := _) hok rfl (by kernel_rfl) (fun _ _ _ h => h) (Or.inr ⟨by rfl, rfl⟩) (by assumption) ?_
        try simp only [List.getElem_toArray, List.getElem_cons_succ, List.getElem_cons_zero, Act.put, List.setIfInBounds_toArray, List.set_cons_zero, List.set_cons_succ]
        refine Hd.take (i := 16) (v := _) hok rfl (by kernel_rfl) (fun _ _ _ h => h) (Or.inr ⟨by rfl, rfl⟩) (by assumption) ?_
        try simp only [List.getElem_toArray, List.getElem_cons_succ, List.getElem_cons_zero, Act.put, List.setIfInBounds_toArray, List.set_cons_zero, List.set_cons_succ]
        refine Hd.take (i := 17) (v := _) hok rfl (by kernel_rfl) (fun _ _ _ h => h) (Or.inr ⟨by rfl, rfl⟩) (by assumption) ?_
        try simp only [List.getElem_toArray, List.getElem_cons_succ, List.getElem_cons_zero, Act.put, List.setIfInBounds_toArray, List.set_cons_zero, List.set_cons_succ]
        refine Hd.take (i := 18) (v := _) hok rfl (by kernel_rfl) (fun _ _ _ h => h) (Or.inr ⟨by rfl, rfl⟩) (by assumption) ?_
        try simp only [List.getElem_toArray, List.getElem_cons_succ, List.getElem_cons_zero, Act.put, List.setIfInBounds_toArray, List.set_cons_zero, List.set_cons_succ]
        refine Hd.take (i := 19) (v := _) hok rfl (by kernel_rfl) (fun _ _ _ h => h) (Or.inr ⟨by rfl, rfl⟩) (by assumption) ?_
        try simp only [List.getElem_toArray, List.getElem_cons_succ, List.getElem_cons_zero, Act.put, List.setIfInBounds_toArray, List.set_cons_zero, List.set_cons_succ]
        refine Hd.take (i := 20) (v := _) hok rfl (by kernel_rfl) (fun _ _ _ h => h) (Or.inr ⟨by rfl, rfl⟩) (by assumption) ?_
        try simp only [List.getElem_toArray, List.getElem_cons_succ, List.getElem_cons_zero, Act.put, List.setIfInBounds_toArray, List.set_cons_zero, List.set_cons_succ]
        refine Hd.take (i := 21) (v := _) hok rfl (by kernel_rfl) (fun _ _ _ h => h) (Or.inr ⟨by rfl, rfl⟩) (by assumption) ?_
        try simp only [List.getElem_toArray, List.getElem_cons_succ, List.getElem_cons_zero, Act.put, List.setIfInBounds_toArray, List.set_cons_zero, List.set_cons_succ]
        refine Hd.take (i := 22) (v := ?tv38) hok rfl (by kernel_rfl) (fun _ _ _ h => h) (Or.inl ⟨by rfl, ?ty38⟩) (by assumption) ?tr38
        case ty38 => (intro w hSw; (try dsimp only at hSw); go_simp; (try with_reducible rfl))
        try simp only [List.getElem_toArray, List.getElem_cons_succ, List.getElem_cons_zero, Act.put, List.setIfInBounds_toArray, List.set_cons_zero, List.set_cons_succ]
        refine Hd.done (by kernel_rfl) ?_
        simp only [List.drop_succ_cons, List.drop_zero]
        have hzF := Lib.hid (hz8.sub (L' := [boxT MB [.slice (some ⟨b, bo, none⟩) bs.length cb, .int .u64 m.nv, .slice ah m.homes.length ch, .slice as_ m.seats.length cs, .int .u64 m.ns, .int .u64 m.sweeps].toArray 27]) (List.Sublist.cons _ (List.Sublist.refl _)))
        clear hok hbL hbB hzd hz8 hcall hb8 hS1
        go_wp2_with fail
        go_roundw
        case rel => exact ⟨0 + 1, ib || tst, by go_num, rfl, by omega, hib2, hzF⟩
        case measure => simp [intOf] <;> omega
      · obtain ⟨u, hpc, hpu⟩ := hprev.out hjp
        have hp1 : (0 : Int) < (j : Int) := by omega
        have hp2 : (0 : Int) ≤ (j : Int) - 1 := by omega
        have hp3 : (j : Int) - 1 < (bs.length : Int) := by omega
        have hp4 : IntKind.i64.wrap ((j : Int) - 1) = (j : Int) - 1 := IntWalk.i64_in _ (by omega)
        have hp5 : ((j : Int) - 1).toNat = j - 1 := by omega
        have hp6 : (1 : Int) ≤ (j : Int) := by omega
        clear hprev
        refine wp_region_hd (fun w' => w'.cell? ⟨Lb, 0, none⟩ = some (.string x.name) ∧ w'.cell? ⟨Lb, 1, none⟩ = some (.int .u64 x.validity) ∧ w'.cell? ⟨Lb, 2, none⟩ = some (.int .u64 x.next) ∧ w'.cell? ⟨Lb, 3, none⟩ = some (.int .u64 x.high) ∧ w'.cell? ⟨Lb, 4, none⟩ = some (.slice x.a x.rows.length x.c) ∧ w'.cell? ⟨MB, 0, none⟩ = some (.slice (some ⟨b, bo, none⟩) bs.length cb) ∧ w'.cell? ⟨MB, 1, none⟩ = some (.int .u64 m.nv) ∧ w'.cell? ⟨b, bo + (j - 1) * 5, none⟩ = some (.string u)) 23 1 (by kernel_rfl) rfl ⟨by kernel_rfl, by kernel_rfl, by kernel_rfl, by decide⟩ ⟨box_cell hbL 0, box_cell hbL 1, box_cell hbL 2, box_cell hbL 3, box_cell hbL 4, box_cell hbB 0, box_cell hbB 1, hpc _ hbd⟩ (fun hok hS0 => ?_)
        generalize w7.drew = Wd at *
        refine Hd.take (i := 0) (v := ?tv39) hok rfl (by kernel_rfl) (fun _ _ _ h => h) (Or.inl ⟨by rfl, ?ty39⟩) (by assumption) ?tr39
        case ty39 => (intro w hSw; (try dsimp only at hSw); go_simp; (try with_reducible rfl))
        try simp only [List.getElem_toArray, List.getElem_cons_succ, List.getElem_cons_zero, Act.put, List.setIfInBounds_toArray, List.set_cons_zero, List.set_cons_succ]
        refine Hd.take (i := 1) (v := ?tv40) hok rfl (by kernel_rfl) (fun _ _ _ h => h) (Or.inl ⟨by rfl, ?ty40⟩) (by assumption) ?tr40
        case ty40 => (intro w hSw; (try dsimp only at hSw); go_simp; (try with_reducible rfl))
        try simp only [List.getElem_toArray, List.getElem_cons_succ, List.getElem_cons_zero, Act.put, List.setIfInBounds_toArray, List.set_cons_zero, List.set_cons_succ]
        refine Hd.take (i := 2) (v := ?tv41) hok rfl (by kernel_rfl) (fun _ _ _ h => h) (Or.inl ⟨by rfl, ?ty41⟩) (by assumption) ?tr41
        case ty41 => (intro w hSw; (try dsimp only at hSw); go_simp; (try with_reducible rfl))
        try simp only [List.getElem_toArray, List.getElem_cons_succ, List.getElem_cons_zero, Act.put, List.setIfInBounds_toArray, List.set_cons_zero, List.set_cons_succ]
        refine Hd.take (i := 3) (v := ?tv42) hok rfl (by kernel_rfl) (fun _ _ _ h => h) (Or.inl ⟨by rfl, ?ty42⟩) (by assumption) ?tr42
        case ty42 => (intro w hSw; (try dsimp only at hSw); go_simp; (try with_reducible rfl))
        try simp only [List.getElem_toArray, List.getElem_cons_succ, List.getElem_cons_zero, Act.put, List.setIfInBounds_toArray, List.set_cons_zero, List.set_cons_succ]
        refine Hd.take (i := 4) (v := ?tv43) hok rfl (by kernel_rfl) (fun _ _ _ h => h) (Or.inl ⟨by rfl, ?ty43⟩) (by assumption) ?tr43
        case ty43 => (intro w hSw; (try dsimp only at hSw); go_simp; (try with_reducible rfl))
        try simp only [List.getElem_toArray, List.getElem_cons_succ, List.getElem_cons_zero, Act.put, List.setIfInBounds_toArray, List.set_cons_zero, List.set_cons_succ]
        refine Hd.one (i := 5) rfl (by kernel_rfl) (fun K hK => ?_)
        go_simp
        refine (hcall.out _ hbd).mono ?_
        rintro e w8 ⟨rfl, hb8⟩
        dsimp only
        have hz8 := hzd.below hb8.out
        have hbd8 := hbd.trans (hb8.out.mono (by first | exact hbd.size | (rw [← hLbE]; exact hbd.size)))
        clear hbL hbB
        obtain ⟨hbL, -⟩ := hz8.box 0 rfl
        obtain ⟨hbB, -⟩ := hz8.box 1 rfl
        have hS1 : w8.cell? ⟨Lb, 0, none⟩ = some (.string x.name) ∧ w8.cell? ⟨Lb, 1, none⟩ = some (.int .u64 x.validity) ∧ w8.cell? ⟨Lb, 2, none⟩ = some (.int .u64 x.next) ∧ w8.cell? ⟨Lb, 3, none⟩ = some (.int .u64 x.high) ∧ w8.cell? ⟨Lb, 4, none⟩ = some (.slice x.a x.rows.length x.c) ∧ w8.cell? ⟨MB, 0, none⟩ = some (.slice (some ⟨b, bo, none⟩) bs.length cb) ∧ w8.cell? ⟨MB, 1, none⟩ = some (.int .u64 m.nv) ∧ w8.cell? ⟨b, bo + (j - 1) * 5, none⟩ = some (.string u) := ⟨box_cell hbL 0, box_cell hbL 1, box_cell hbL 2, box_cell hbL 3, box_cell hbL 4, box_cell hbB 0, box_cell hbB 1, hpc _ hbd8⟩
        refine hK _ _ hS1 ?_
        clear hK K hS0
        try simp only [List.getElem_toArray, List.getElem_cons_succ, List.getElem_cons_zero, Act.put, List.setIfInBounds_toArray, List.set_cons_zero, List.set_cons_succ]
        refine Hd.take (i := 6) (v := ?tv44) hok rfl (by kernel_rfl) (fun _ _ _ h => h) (Or.inl ⟨by rfl, ?ty44⟩) (by assumption) ?tr44
        case ty44 => (intro w hSw; (try dsimp only at hSw); go_simp; (try with_reducible rfl))
        try simp only [List.getElem_toArray, List.getElem_cons_succ, List.getElem_cons_zero, Act.put, List.setIfInBounds_toArray, List.set_cons_zero, List.set_cons_succ]
        refine Hd.take (i := 7) (v := ?tv45) hok rfl (by kernel_rfl) (fun _ _ _ h => h) (Or.inl ⟨by rfl, ?ty45⟩) (by assumption) ?tr45
        case ty45 => (intro w hSw; (try dsimp only at hSw); go_simp; (try with_reducible rfl))
        try simp only [List.getElem_toArray, List.getElem_cons_succ, List.getElem_cons_zero, Act.put, List.setIfInBounds_toArray, List.set_cons_zero, List.set_cons_succ]
        refine Hd.take (i := 8) (v := ?tv46) hok rfl (by kernel_rfl) (fun _ _ _ h => h) (Or.inl ⟨by rfl, ?ty46⟩) (by assumption) ?tr46
        case ty46 => (intro w hSw; (try dsimp only at hSw); go_simp; (try with_reducible rfl))
        try simp only [List.getElem_toArray, List.getElem_cons_succ, List.getElem_cons_zero, Act.put, List.setIfInBounds_toArray, List.set_cons_zero, List.set_cons_succ]
        refine Hd.take (i := 9) (v := ?tv47) hok rfl (by kernel_rfl) (fun _ _ _ h => h) (Or.inl ⟨by rfl, ?ty47⟩) (by assumption) ?tr47
        case ty47 => (intro w hSw; (try dsimp only at hSw); go_simp; (try with_reducible rfl))
        try simp only [List.getElem_toArray, List.getElem_cons_succ, List.getElem_cons_zero, Act.put, List.setIfInBounds_toArray, List.set_cons_zero, List.set_cons_succ]
        refine Hd.take (i := 10) (v := ?tv48) hok rfl (by kernel_rfl) (fun _ _ _ h => h) (Or.inl ⟨by rfl, ?ty48⟩) (by assumption) ?tr48
        case ty48 => (intro w hSw; (try dsimp only at hSw); go_simp; (try with_reducible rfl))
        try simp only [List.getElem_toArray, List.getElem_cons_succ, List.getElem_cons_zero, Act.put, List.setIfInBounds_toArray, List.set_cons_zero, List.set_cons_succ]
        refine Hd.take (i := 11) (v := ?tv49) hok rfl (by kernel_rfl) (fun _ _ _ h => h) (Or.inl ⟨by rfl, ?ty49⟩) (by assumption) ?tr49
        case ty49 => (intro w hSw; (try dsimp only at hSw); go_simp; (try with_reducible rfl))
        try simp only [List.getElem_toArray, List.getElem_cons_succ, List.getElem_cons_zero, Act.put, List.setIfInBounds_toArray, List.set_cons_zero, List.set_cons_succ]
        refine Hd.take (i := 12) (v := ?tv50) hok rfl (by kernel_rfl) (fun _ _ _ h => h) (Or.inl ⟨by rfl, ?ty50⟩) (by assumption) ?tr50
        case ty50 => (intro w hSw; (try dsimp only at hSw); go_simp; (try with_reducible rfl))
        try simp only [List.getElem_toArray, List.getElem_cons_succ, List.getElem_cons_zero, Act.put, List.setIfInBounds_toArray, List.set_cons_zero, List.set_cons_succ]
        refine Hd.take (i := 13) (v := ?tv51) hok rfl (by kernel_rfl) (fun _ _ _ h => h) (Or.inl ⟨by rfl, ?ty51⟩) (by assumption) ?tr51
        case ty51 => (intro w hSw; (try dsimp only at hSw); go_simp; (try with_reducible rfl))
        try simp only [List.getElem_toArray, List.getElem_cons_succ, List.getElem_cons_zero, Act.put, List.setIfInBounds_toArray, List.set_cons_zero, List.set_cons_succ]
        refine Hd.take (i := 14) (v := ?tv52) hok rfl (by kernel_rfl) (fun _ _ _ h => h) (Or.inl ⟨by rfl, ?ty52⟩) (by assumption) ?tr52
        case ty52 => (intro w hSw; (try dsimp only at hSw); go_simp; (try with_reducible rfl))
        try simp only [List.getElem_toArray, List.getElem_cons_succ, List.getElem_cons_zero, Act.put, List.setIfInBounds_toArray, List.set_cons_zero, List.set_cons_succ]
        refine Hd.take (i := 15) (v := ?tv53) hok rfl (by kernel_rfl) (fun _ _ _ h => h) (Or.inl ⟨by rfl, ?ty53⟩) (by assumption) ?tr53
        case ty53 => (intro w hSw; (try dsimp only at hSw); go_simp; (try with_reducible rfl))
        try simp only [List.getElem_toArray, List.getElem_cons_succ, List.getElem_cons_zero, Act.put, List.setIfInBounds_toArray, List.set_cons_zero, List.set_cons_succ]
        refine Hd.take (i := 16) (v := ?tv54) hok rfl (by kernel_rfl) (fun _ _ _ h => h) (Or.inl ⟨by rfl, ?ty54⟩) (by assumption) ?tr54
        case ty54 => (intro w hSw; (try dsimp only at hSw); go_simp; (try with_reducible rfl))
        try simp only [List.getElem_toArray, List.getElem_cons_succ, List.getElem_cons_zero, Act.put, List.setIfInBounds_toArray, List.set_cons_zero, List.set_cons_succ]
        refine Hd.take (i := 17) (v := ?tv55) hok rfl (by kernel_rfl) (fun _ _ _ h => h) (Or.inl ⟨by rfl, ?ty55⟩) (by assumption) ?tr55
        case ty55 => (intro w hSw; (try dsimp only at hSw); go_simp; (try with_reducible rfl))
        try simp only [List.getElem_toArray, List.getElem_cons_succ, List.getElem_cons_zero, Act.put, List.setIfInBounds_toArray, List.set_cons_zero, List.set_cons_succ]
        refine Hd.take (i := 18) (v := ?tv56) hok rfl (by kernel_rfl) (fun _ _ _ h => h) (Or.inl ⟨by rfl, ?ty56⟩) (by assumption) ?tr56
        case ty56 => (intro w hSw; (try dsimp only at hSw); go_simp; (try with_reducible rfl))
        try simp only [List.getElem_toArray, List.getElem_cons_succ, List.getElem_cons_zero, Act.put, List.setIfInBounds_toArray, List.set_cons_zero, List.set_cons_succ]
        refine Hd.take (i := 19) (v := ?tv57) hok rfl (by kernel_rfl) (fun _ _ _ h => h) (Or.inl ⟨by rfl, ?ty57⟩) (by assumption) ?tr57
        case ty57 => (intro w hSw; (try dsimp only at hSw); go_simp; (try with_reducible rfl))
        try simp only [List.getElem_toArray, List.getElem_cons_succ, List.getElem_cons_zero, Act.put, List.setIfInBounds_toArray, List.set_cons_zero, List.set_cons_succ]
        refine Hd.take (i := 20) (v := ?tv58) hok rfl (by kernel_rfl) (fun _ _ _ h => h) (Or.inl ⟨by rfl, ?ty58⟩) (by assumption) ?tr58
        case ty58 => (intro w hSw; (try dsimp only at hSw); go_simp; (try with_reducible rfl))
        try simp only [List.getElem_toArray, List.getElem_cons_succ, List.getElem_cons_zero, Act.put, List.setIfInBounds_toArray, List.set_cons_zero, List.set_cons_succ]
        refine Hd.take (i := 21) (v := ?tv59) hok rfl (by kernel_rfl) (fun _ _ _ h => h) (Or.inl ⟨by rfl, ?ty59⟩) (by assumption) ?tr59
        case ty59 => (intro w hSw; (try dsimp only at hSw); go_simp; (try with_reducible rfl))
        try simp only [List.getElem_toArray, List.getElem_cons_succ, List.getElem_cons_zero, Act.put, List.setIfInBounds_toArray, List.set_cons_zero, List.set_cons_succ]
        refine Hd.take (i := 22) (v := ?tv60) hok rfl (by kernel_rfl) (fun _ _ _ h => h) (Or.inl ⟨by rfl, ?ty60⟩) (by assumption) ?tr60
        case ty60 => (intro w hSw; (try dsimp only at hSw); go_simp; (try with_reducible rfl))
        try simp only [List.getElem_toArray, List.getElem_cons_succ, List.getElem_cons_zero, Act.put, List.setIfInBounds_toArray, List.set_cons_zero, List.set_cons_succ]
        refine Hd.done (by kernel_rfl) ?_
        simp only [List.drop_succ_cons, List.drop_zero]
        have hzF := Lib.hid (hz8.sub (L' := [boxT MB [.slice (some ⟨b, bo, none⟩) bs.length cb, .int .u64 m.nv, .slice ah m.homes.length ch, .slice as_ m.seats.length cs, .int .u64 m.ns, .int .u64 m.sweeps].toArray 27]) (List.Sublist.cons _ (List.Sublist.refl _)))
        clear hok hbL hbB hzd hz8 hcall hb8 hS1
        go_wp2_with fail
        go_roundw
        case rel => exact ⟨j + 1, ib || tst, by go_num, rfl, by omega, hib2, hzF⟩
        case measure => simp [intOf] <;> omega
    · obtain rfl : j = bs.length := by omega
      have hibT : ib = true := by
        rw [hib.out, hlb.out, List.take_length, List.any_eq_true]
        obtain ⟨b, hb, e⟩ := hr.out.inbox
        exact ⟨b, hb, by unfold isInbox; rw [e]; simp⟩
      subst hibT
      have x0 : wr.cell? ⟨MB, 0, none⟩ = some (.slice ab bs.length cb) := box_cell hbB 0
      have x1 : wr.cell? ⟨MB, 1, none⟩ = some (.int .u64 m.nv) := box_cell hbB 1
      have x2 : wr.cell? ⟨MB, 2, none⟩ = some (.slice ah m.homes.length ch) := box_cell hbB 2
      have x3 : wr.cell? ⟨MB, 3, none⟩ = some (.slice as_ m.seats.length cs) := box_cell hbB 3
      have x4 : wr.cell? ⟨MB, 4, none⟩ = some (.int .u64 m.ns) := box_cell hbB 4
      have x5 : wr.cell? ⟨MB, 5, none⟩ = some (.int .u64 m.sweeps) := box_cell hbB 5
      have hsr := Lib.hid (seatsRight_yes _ (hin0.out wr hz.out.bel) hr.out)
      clear hbB hib
      go_wp2_with fail
      refine hsr.out.mono ?_
      rintro e w8 ⟨rfl, hb8⟩
      dsimp only
      have hbF := Lib.hid (hz.out.below hb8.out).bel
      clear x0 x1 x2 x3 x4 x5 hsr hz hb8
      go_wp2_with fail
      go_ret
      first | exact ⟨rfl, hbF⟩ | (rw [← hMB]; exact ⟨rfl, hbF⟩)
end Go.Proofs.YtpkaoiadjffjiaaGreat
