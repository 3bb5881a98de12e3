/- light of layer 19, walked: a state that is light is small. (written by tools/gen_ImN.py out of VtI, VtJ) mail.Same's closures over letters and mailboxes, asked about like ones: walked. mail.Same's closure over mailboxes, EqualFunc over them, asked about like ones: walked. (written by tools/gen_MoF.py) -/
import Derived.Test.YtpkaoiadjffjiaaGreatB05
import Derived.Test.YtpkaoiadjffjiaaGreatB11
import Derived.Test.YtpkaoiadjffjiaaGreatB06
import Derived.Laws.EntriesVeiled
namespace Go.Proofs.YtpkaoiadjffjiaaGreat
set_option linter.unusedSimpArgs false
open Go.RowKit
attribute [local go_sem ↓] Go.wp_at_zero Go.wp_at_succ

theorem isum_le {α : Type} (f : α → Nat) (c : Nat) (h : ∀ x, f x ≤ c) (l : List α) : (l.map f).sum ≤ l.length * c := sum_mem_le f c l (fun x _ => h x)
theorem itextsN_le (l : List (List UInt8)) : textsN l ≤ 13107400 := by
  unfold textsN
  split
  · omega
  · have := isum_le textN 65536 textN_le l
    omega
theorem iheap_below {W W' : World} {b : Nat} {o : Obj} (h : W.heap[b]? = some o) (hb : Below W.heap.size W W') : W'.heap[b]? = some o := (hb.block b (Array.getElem?_eq_some_iff.1 h).1).trans h
def iletN (x : Lt) : Nat := textsN x.flags + fewN x.hash.size / 32
def iboxN (b : Bx) : Nat := b.letters.length + fewN b.name.size + (b.letters.map iletN).sum
def lightM (m : Ml) : Bool :=
  decide (m.boxes.length ≤ 50) && decide (m.seats.length ≤ 100) && decide (m.homes.length ≤ 50) && (m.boxes.all fun b => decide (b.letters.length ≤ 500))
    && decide (m.boxes.length + m.seats.length + m.homes.length + (m.boxes.map iboxN).sum < 12000)
theorem iletN_le (x : Lt) : iletN x ≤ 13140168 := by unfold iletN; have := itextsN_le x.flags; have := fewN_le x.hash.size; omega
theorem iboxN_le (b : Bx) (h : b.letters.length ≤ 500) : iboxN b ≤ 6571133076 := by
  unfold iboxN
  have h1 := isum_le iletN 13140168 iletN_le b.letters
  have h2 := fewN_le b.name.size
  have h3 : b.letters.length * 13140168 ≤ 500 * 13140168 := Nat.mul_le_mul_right _ h
  omega
theorem ilight_no {m : Ml} (h : m.boxes.length ≤ 50 → m.seats.length ≤ 100 → m.homes.length ≤ 50 → (∀ b ∈ m.boxes, b.letters.length ≤ 500) → ¬ (m.boxes.length + m.seats.length + m.homes.length + (m.boxes.map iboxN).sum < 12000)) : lightM m = false := by
  cases hb : lightM m with
  | false => rfl
  | true =>
    unfold lightM at hb
    simp only [Bool.and_eq_true, decide_eq_true_eq, List.all_eq_true] at hb
    exact absurd hb.2 (h hb.1.1.1.1 hb.1.1.1.2 hb.1.1.2 hb.1.2)
theorem ilight_yes {m : Ml} (h1 : m.boxes.length ≤ 50) (h2 : m.seats.length ≤ 100) (h3 : m.homes.length ≤ 50) (h5 : ∀ b ∈ m.boxes, b.letters.length ≤ 500) : lightM m = decide (m.boxes.length + m.seats.length + m.homes.length + (m.boxes.map iboxN).sum < 12000) := by
  unfold lightM
  rw [decide_eq_true h1, decide_eq_true h2, decide_eq_true h3, List.all_eq_true.2 (fun b hb => decide_eq_true (h5 b hb))]
  rfl
theorem ifew_q (n : Nat) (w : World) : Calls Tryz.prog 12 #[.int .i64 n] w fun e w' => e = .returned (.int .i64 (fewN n)) ∧ w' = w := (few_any n w).mono fun _ _ h => ⟨h.1, h.2.symm⟩
theorem itexts_q {w : World} {v : Value} {l : List (List UInt8)} (hr : FlIn w v l) (n : Nat) : Calls Tryz.prog 13 #[v] (w.drewN n) fun e w'' => e = .returned (.int .i64 (textsN l)) ∧ w'' = w.drewN n := (texts_any v l (w.drewN n) (Rd.below hr (below_drewN (Below.refl _ _) n))).mono fun _ _ h => ⟨h.1, h.2.symm⟩
theorem iidx_map {α β : Type} {f : α → β} {l : List α} {m : List β} (h : l.map f = m) {i : Nat} (hi : i < l.length) : m[i]? = some (f l[i]) := by
  rw [← h, List.getElem?_map, List.getElem?_eq_getElem hi]; rfl
theorem ilight_off {m : Ml} {i : Nat} {b : Bx} (hb : m.boxes[i]? = some b) (h : 500 < b.letters.length) : lightM m = false :=
  ilight_no (fun _ _ _ h5 => absurd (h5 b (List.mem_of_getElem? hb)) (by omega))
set_option maxRecDepth 100000 in
set_option maxHeartbeats 16000000 in
theorem lightM_any {W : World} {m : Ml} (v : Value) (hin : MlIn W v m) :
    Calls Tryz.prog 6 #[v] W fun e w' => e = .returned (.bool (lightM m)) ∧ Hid (Below W.heap.size W w') := by
  obtain ⟨vb, vh, vs, bs, rfl, hbs, hib, hih, his⟩ := hin
  have hlb : bs.length = m.boxes.length := by rw [← hbs, List.length_map]
  have hib0 := Lib.hid (fun (W' : World) (h : Below W.heap.size W W') => hib.below h)
  obtain ⟨ab, cb, rfl, -⟩ := hib.1
  obtain ⟨ah, ch, rfl, -⟩ := hih
  obtain ⟨as_, cs, rfl, -⟩ := his
  have hz1 := (Zoo.nil W).newBox [.slice ab bs.length cb, .int .u64 m.nv, .slice ah m.homes.length ch, .slice as_ m.seats.length cs, .int .u64 m.ns, .int .u64 m.sweeps].toArray 27
  generalize hMB : W.heap.size = MB at hz1
  generalize hWa : (W.alloc (.cells [.slice ab bs.length cb, .int .u64 m.nv, .slice ah m.homes.length ch, .slice as_ m.seats.length cs, .int .u64 m.ns, .int .u64 m.sweeps].toArray 27)) = Wa at hz1
  have hmb := (hz1.box 0 rfl).1
  have q0 : Wa.cell? ⟨MB, 0, none⟩ = some (.slice ab bs.length cb) := box_cell hmb 0
  have q2 : Wa.cell? ⟨MB, 2, none⟩ = some (.slice ah m.homes.length ch) := box_cell hmb 2
  have q3 : Wa.cell? ⟨MB, 3, none⟩ = some (.slice as_ m.seats.length cs) := box_cell hmb 3
  have hbel : Hid (Below MB W Wa) := Lib.hid (hMB ▸ hz1.bel)
  have hmb0 : Hid (∀ wr, Below Wa.heap.size Wa wr → wr.cell? ⟨MB, 0, none⟩ = some (.slice ab bs.length cb)) := Lib.hid (fun wr h => box_cell (iheap_below hmb h) 0)
  replace hbs := Lib.hid hbs
  replace hlb := Lib.hid hlb
  have hz1b := Lib.hid hz1.bel
  unfold mlVal
  by_cases c1 : 50 < bs.length
  · have c1' : (50 : Int) < (bs.length : Int) := by omega
    have hr := Lib.hid (ilight_no (m := m) (fun h => absurd h (by have := hlb.out; omega)))
    clear hib hmb hz1 c1
    go_enter Tryz.func6, Tryz.ntmps6
    go_wp2_with fail
    go_ret
    exact ⟨ret_bool (by rw [hr.out]), hbel⟩
  have c1' : decide ((50 : Int) < (bs.length : Int)) = false := decide_eq_false (by omega)
  by_cases c2 : 100 < m.seats.length
  · have c2' : (100 : Int) < (m.seats.length : Int) := by omega
    have hr := Lib.hid (ilight_no (m := m) (fun _ h => absurd h (by omega)))
    clear hib hmb hz1 c1 c2
    go_enter Tryz.func6, Tryz.ntmps6
    go_wp2_with fail
    go_ret
    exact ⟨ret_bool (by rw [hr.out]), hbel⟩
  have c2' : decide ((100 : Int) < (m.seats.length : Int)) = false := decide_eq_false (by omega)
  by_cases c3 : 50 < m.homes.length
  · have c3' : (50 : Int) < (m.homes.length : Int) := by omega
    have hr := Lib.hid (ilight_no (m := m) (fun _ _ h => absurd h (by omega)))
    clear hib hmb hz1 c1 c2 c3
    go_enter Tryz.func6, Tryz.ntmps6
    go_wp2_with fail
    go_ret
    exact ⟨ret_bool (by rw [hr.out]), hbel⟩
  have c3' : decide ((50 : Int) < (m.homes.length : Int)) = false := decide_eq_false (by omega)
  have e1 : bs.length ≤ 50 := by omega
  have e2 : m.seats.length ≤ 100 := by omega
  have e3 : m.homes.length ≤ 50 := by omega
  clear hib hmb hz1 c1 c2 c3
  go_enter Tryz.func6, Tryz.ntmps6
  go_wp2_with fail
  clear q0 q2 q3 c1' c2' c3'
  go_loopw [3, 4] (fun v5 v6 wr => ∃ i N : Nat, v6 = .int .i64 i ∧ v5 = .int .i64 N ∧ i ≤ bs.length ∧ Hid (N = bs.length + m.seats.length + m.homes.length + ((m.boxes.take i).map iboxN).sum) ∧ Hid (∀ j b, j < i → m.boxes[j]? = some b → b.letters.length ≤ 500) ∧ Hid (Below Wa.heap.size Wa wr)) (fun _ v6 _ => bs.length - (intOf v6).toNat)
  case atStart => exact ⟨0, bs.length + m.seats.length + m.homes.length, rfl, by go_num, Nat.zero_le _, Lib.hid (by simp), Lib.hid (fun j b hj => by omega), Lib.hid (Below.refl _ _)⟩
  case round =>
    obtain ⟨i, N, rfl, rfl, hi, hN, h500, hb⟩ := hrel
    have hbW : Below W.heap.size W wr := hz1b.out.trans (hb.out.mono hz1b.out.size)
    by_cases hlt : i < bs.length
    · have hib1 := hib0.out wr hbW
      obtain ⟨b, bo, cap, hv, -, hblt, hcells⟩ := bxT.rd_cells hib1.1 hlt
      injection hv with hv1 hv2 hv3
      subst hv1 hv3
      have q0 := hmb0.out wr hb.out
      have hmx := iidx_map hbs.out hlt
      have hLts := hib1.2 _ (List.getElem_mem hlt)
      have h5s : Hid (m.boxes[i]? = some bs[i].b) := Lib.hid hmx
      have hsum : Hid (((m.boxes.take (i + 1)).map iboxN).sum = ((m.boxes.take i).map iboxN).sum + iboxN bs[i].b) := Lib.hid (by
        have hi2 : i < m.boxes.length := by have := hlb.out; omega
        have e := List.getElem?_eq_getElem hi2
        rw [hmx] at e
        rw [sum_take iboxN m.boxes i hi2, ← Option.some.inj e])
      have hNb : N ≤ 200 + 50 * 6571133076 := by
        have h1 := hN.out
        have h2 := sum_mem_le iboxN 6571133076 (m.boxes.take i) (fun b hb => by
          obtain ⟨j, hj, rfl⟩ := List.mem_iff_getElem.1 hb
          rw [List.length_take] at hj
          rw [List.getElem_take]
          exact iboxN_le _ (h500.out j _ (by omega) (List.getElem?_eq_getElem (by omega))))
        have h3 : (m.boxes.take i).length ≤ 50 := by rw [List.length_take]; omega
        have h4 := Nat.mul_le_mul_right 6571133076 h3
        omega
      have c0 := hcells 0 _ rfl
      have c4 := hcells 4 _ rfl
      obtain ⟨x, hx⟩ : ∃ x, bs[i] = x := ⟨_, rfl⟩
      rw [hx] at c0 c4 hLts h5s hsum
      obtain ⟨nm, va, nx, hg, rows, xa, xc⟩ := x
      replace c0 : wr.cell? ⟨b, bo + i * 5, none⟩ = some (.string nm) := c0
      replace c4 : wr.cell? ⟨b, bo + i * 5 + 4, none⟩ = some (.slice xa rows.length xc) := c4
      replace hLts := Lib.hid hLts
      have hi0 : (0 : Int) ≤ (i : Int) := by omega
      have hi1 : (i : Int) < (bs.length : Int) := by omega
      clear hib1 hcells hmx hx
      by_cases h5 : 500 < rows.length
      · have h5' : (500 : Int) < (rows.length : Int) := by omega
        have hr := Lib.hid (ilight_off h5s.out (by show 500 < (rows.map LtV.x).length; rw [List.length_map]; exact h5))
        have hbF := Lib.hid hbW
        clear h5 hbW hN h500 hsum hLts h5s hb
        go_wp2_with fail
        go_ret
        exact ⟨ret_bool (by rw [hr.out]), by first | exact hbF | (rw [← hMB]; exact hbF)⟩
      · have h5' : decide ((500 : Int) < (rows.length : Int)) = false := decide_eq_false (by omega)
        have h5b : rows.length ≤ 500 := by omega
        have hfl := fewN_le nm.size
        clear h5
        go_wp2_with fail
        go_quiet ((go_at_call 12; exact Calls.quiet_of_same (ifew_q nm.size _)))
        go_wp2_with fail
        have hbQ : Hid (Below Wa.heap.size Wa (wr.drewN nq)) := Lib.hid (below_drewN hb.out nq)
        have hbR0 : Hid (Below wr.heap.size wr (wr.drewN nq)) := Lib.hid (below_drewN (Below.refl _ _) nq)
        generalize wr.drewN nq = wq at hbQ hbR0 ⊢
        generalize wr = wo at *
        go_loopw [3, 5] (fun v5 v7 wk => ∃ k N2 : Nat, v7 = .int .i64 k ∧ v5 = .int .i64 N2 ∧ k ≤ rows.length ∧ Hid (N2 = N + rows.length + fewN nm.size + (((rows.map LtV.x).take k).map iletN).sum) ∧ Hid (Below Wa.heap.size Wa wk) ∧ Hid (Below wo.heap.size wo wk)) (fun _ v7 _ => rows.length - (intOf v7).toNat)
        case atStart => exact ⟨0, N + rows.length + fewN nm.size, rfl, by go_num, Nat.zero_le _, Lib.hid (by simp), hbQ, hbR0⟩
        case round =>
          generalize wr = wk at *
          obtain ⟨k, N2, rfl, rfl, hk, hN2, hbA, hbR⟩ := hrel
          have q0' := hmb0.out wk hbA.out
          have c4' := (hbR.out.cell (p := ⟨b, bo + i * 5 + 4, none⟩) hblt).trans c4
          have hN2b : N2 ≤ 200 + 50 * 6571133076 + 500 + 1048576 + 500 * 13140168 := by
            have h1 := hN2.out
            have h2 := sum_take_le iletN 13140168 500 (rows.map LtV.x) k (by omega) (fun y _ => iletN_le y)
            omega
          by_cases hkl : k < rows.length
          · obtain ⟨b2, bo2, cap2, hv, -, hb2lt, hcells2⟩ := ltT.rd_cells (Rd.below hLts.out.1 hbR.out) hkl
            injection hv with hv1 hv2 hv3
            subst hv1 hv3
            have hflg : FlIn wk _ _ := Rd.below (hLts.out.2 _ (List.getElem_mem hkl)) hbR.out
            have hsum2 : (((rows.map LtV.x).take (k + 1)).map iletN).sum = (((rows.map LtV.x).take k).map iletN).sum + iletN rows[k].x := by
              rw [sum_take iletN (rows.map LtV.x) k (by rw [List.length_map]; exact hkl), List.getElem_map]
            have d1 := hcells2 1 _ rfl
            have d3 := hcells2 3 _ rfl
            obtain ⟨z, hz⟩ : ∃ z, rows[k] = z := ⟨_, rfl⟩
            rw [hz] at hflg hsum2 d1 d3
            replace d1 : wk.cell? ⟨b2, bo2 + k * 5 + 1, none⟩ = some (.slice z.a z.x.flags.length z.c) := d1
            replace d3 : wk.cell? ⟨b2, bo2 + k * 5 + 3, none⟩ = some (.string z.x.hash) := d3
            have hfw := fewN_le z.x.hash.size
            have htx := itextsN_le z.x.flags
            have hN3 : Hid (N2 + textsN z.x.flags + fewN z.x.hash.size / 32 = N + rows.length + fewN nm.size + (((rows.map LtV.x).take (k + 1)).map iletN).sum) := Lib.hid (by
              rw [hsum2, hN2.out]
              unfold iletN
              omega)
            have hk0 : (0 : Int) ≤ (k : Int) := by omega
            have hk1 : (k : Int) < (rows.length : Int) := by omega
            replace hflg := Lib.hid hflg
            replace c4' : wk.cell? ⟨b, bo + i * 5 + 4, none⟩ = some (.slice (some ⟨b2, bo2, none⟩) rows.length xc) := c4'
            have htq : Hid (∀ n, Calls Tryz.prog 13 #[.slice z.a z.x.flags.length z.c] (wk.drewN n) fun e w'' => e = .returned (.int .i64 (textsN z.x.flags)) ∧ w'' = wk.drewN n) := Lib.hid (fun n => itexts_q hflg.out n)
            clear hcells2 hsum2 hN2 hz c0 c4 q0
            generalize textsN z.x.flags = tx at *
            have hfq : Hid (∀ w, Calls Tryz.prog 12 #[.int .i64 z.x.hash.size] w fun e w' => e = .returned (.int .i64 (fewN z.x.hash.size)) ∧ w' = w) := Lib.hid (fun w => ifew_q _ w)
            generalize fewN z.x.hash.size = fw at *
            go_wp2_with fail
            go_quiet (first | (go_at_call 12; exact Calls.quiet_of_same (hfq.out _)) | (go_at_call 13; exact Calls.quiet_of_same (htq.out _)))
            go_wp2_with fail
            go_roundw
            case rel => exact ⟨k + 1, N2 + tx + fw / 32, by go_num, by congr 1, by omega, hN3, Lib.hid (below_drewN hbA.out nq), Lib.hid (below_drewN hbR.out nq)⟩
            case measure => simp [intOf] <;> omega
          · have hk1 : (rows.length : Int) ≤ (k : Int) := by omega
            have hk2 : ¬ ((k : Int) < (rows.length : Int)) := by omega
            have hNF : Hid (N2 = bs.length + m.seats.length + m.homes.length + ((m.boxes.take (i + 1)).map iboxN).sum) := Lib.hid (by
              have hke : k = (rows.map LtV.x).length := by rw [List.length_map]; omega
              have h1 := hN2.out
              rw [hke, List.take_length] at h1
              rw [hsum.out, h1, hN.out]
              unfold iboxN BxV.b
              dsimp only
              rw [List.length_map]
              omega)
            have h5F : Hid (∀ j b, j < i + 1 → m.boxes[j]? = some b → b.letters.length ≤ 500) := Lib.hid (fun j bb hj hbb => by
              by_cases e : j = i
              · subst e
                rw [h5s.out] at hbb
                injection hbb with hbb
                subst hbb
                show (rows.map LtV.x).length ≤ 500
                rw [List.length_map]; exact h5b
              · exact h500.out j bb (by omega) hbb)
            clear hN hN2 hsum h500 h5s c0 c4 q0 hLts
            go_wp2_with fail
            go_roundw
            case rel => exact ⟨i + 1, N2, by go_num, rfl, by omega, hNF, h5F, hbA⟩
            case measure => simp [intOf] <;> omega
    · have hi1 : (bs.length : Int) ≤ (i : Int) := by omega
      have hi2 : ¬ ((i : Int) < (bs.length : Int)) := by omega
      have q0 := hmb0.out wr hb.out
      have hall : Hid (∀ b ∈ m.boxes, b.letters.length ≤ 500) := Lib.hid (fun b hb2 => by
        obtain ⟨j, hj, rfl⟩ := List.mem_iff_getElem.1 hb2
        exact h500.out j _ (by have := hlb.out; omega) (List.getElem?_eq_getElem hj))
      have hNA : Hid (N = bs.length + m.seats.length + m.homes.length + (m.boxes.map iboxN).sum) := Lib.hid (by
        rw [hN.out, show i = m.boxes.length from by have := hlb.out; omega, List.take_length])
      have hNb : N ≤ 200 + 50 * 6571133076 := by
        have h1 := hNA.out
        have h2 := sum_mem_le iboxN 6571133076 m.boxes (fun b hb => iboxN_le _ (hall.out b hb))
        have h3 : m.boxes.length ≤ 50 := by have := hlb.out; omega
        have h4 := Nat.mul_le_mul_right 6571133076 h3
        omega
      have hR : Hid (lightM m = decide ((N : Int) < (12000 : Int))) := Lib.hid (by
        rw [ilight_yes (by have := hlb.out; omega) e2 e3 hall.out, decide_eq_decide]
        have h2 := hNA.out
        have h3 := hlb.out
        omega)
      have hbF := Lib.hid hbW
      clear hN h500 hNA hall hNb hb hbW
      go_wp2_with fail
      go_ret
      exact ⟨ret_bool hR.out.symm, by first | exact hbF | (rw [← hMB]; exact hbF)⟩
theorem ile_sum_mem {α : Type} (f : α → Nat) {x : α} : ∀ {l : List α}, x ∈ l → f x ≤ (l.map f).sum
  | y :: r, h => by
    simp only [List.map_cons, List.sum_cons]
    rcases List.mem_cons.1 h with rfl | h
    · omega
    · have := ile_sum_mem f h; omega
theorem ifewN_lt {n : Nat} (h : fewN n < 1048576) : n = fewN n := by unfold fewN at h ⊢; omega
theorem itextsN_sized {l : List (List UInt8)} (h : textsN l < 12000) : l.length ≤ 200 ∧ Sized l := by
  unfold textsN at h
  split at h
  · omega
  · refine ⟨by omega, fun x hx => ?_⟩
    have h1 := ile_sum_mem textN hx
    have h2 : textN x < 12000 := by omega
    unfold textN at h2
    have h3 := ifewN_lt (n := x.length) (by omega)
    have h4 : (mkB x).size = x.length := by simp [mkB, ByteArray.size]
    rw [h4]
    unfold maxLen
    omega
theorem light_sz {m : Ml} (h : lightM m = true) : AnySz m := by
  unfold lightM at h
  simp only [Bool.and_eq_true, decide_eq_true_eq, List.all_eq_true] at h
  have hb : ∀ b ∈ m.boxes, iboxN b < 12000 := fun b hb => by have := ile_sum_mem iboxN hb; have := h.2; omega
  have hl : ∀ b ∈ m.boxes, ∀ x ∈ b.letters, textsN x.flags < 12000 := by
    intro b hb0 x hx
    have h1 := hb b hb0
    have h2 := ile_sum_mem iletN hx
    unfold iboxN at h1
    have h3 : iletN x < 12000 := by omega
    unfold iletN at h3
    omega
  refine ⟨by omega, by omega, by omega, fun b hb0 => ?_, fun b hb0 => ?_, fun b hb0 x hx => ?_⟩
  · have h1 := hb b hb0
    unfold iboxN at h1
    have h3 := ifewN_lt (n := b.name.size) (by omega)
    unfold maxLen
    omega
  · have := h.1.2 b hb0; omega
  · have h1 := itextsN_sized (hl b hb0 x hx)
    exact ⟨by omega, h1.2⟩
end Go.Proofs.YtpkaoiadjffjiaaGreat
namespace Go.Proofs.YtpkaoiadjffjiaaGreat
set_option linter.unusedSimpArgs false
open Go.RowKit
attribute [local go_sem ↓] Go.wp_at_zero Go.wp_at_succ

set_option maxRecDepth 100000 in
set_option maxHeartbeats 16000000 in
theorem eqLt_yes {W : World} (X Y : LtV) (hX : FlIn W X.v X.x.flags) (hY : FlIn W Y.v Y.x.flags) (he : X.x = Y.x) (hl : X.x.flags.length * 16 ≤ 140737488355328) :
    Calls Tryz.prog 36 #[.agg (ltCells X).toArray, .agg (ltCells Y).toArray] W fun e w' => e = .returned (.bool true) ∧ Hid (Below W.heap.size W w') := by
  obtain ⟨⟨u, f, m, h, z⟩, xa, xc⟩ := X
  obtain ⟨⟨u2, f2, m2, h2, z2⟩, ya, yc⟩ := Y
  dsimp only at he hl
  injection he with e1 e2 e3 e4 e5
  subst e1 e2 e3 e4 e5
  have hs := Lib.hid (fun w (hb : Below W.heap.size W w) => equal_any _ _ f f w (Rd.below hX hb) (Rd.below hY hb) hl hl)
  unfold ltCells LtV.v
  unfold LtV.v at hs
  dsimp only at hs ⊢
  have n0 : ((u : Int) == (u : Int)) = true := by simp
  have n1 : ((m : Int) == (m : Int)) = true := by simp
  have n2 : (h.toList == h.toList) = true := by simp
  have n3 : ((z : Int) == (z : Int)) = true := by simp
  go_enter Tryz.func36, Tryz.ntmps36
  go_wp2_with (go_at_call 37; refine (hs.out _ (below2 _ _ _)).mono ?_; rintro e w3 ⟨rfl, hb3⟩; rw [decide_eq_true rfl])
  go_ret
  exact ⟨rfl, Lib.hid ((below2 _ _ _).trans (hb3.out.mono (below2 _ _ _).size))⟩
set_option maxRecDepth 100000 in
set_option maxHeartbeats 16000000 in
theorem eqLts_yes {W : World} (rows rows2 : List LtV) (xa ya : Option Addr) (xc yc : Nat) (hX : LtsIn W (.slice xa rows.length xc) rows) (hY : LtsIn W (.slice ya rows2.length yc) rows2) (he : rows.map LtV.x = rows2.map LtV.x) (hl : rows.length ≤ 1000000) (hfl : ∀ y ∈ rows, y.x.flags.length * 16 ≤ 140737488355328) :
    Calls Tryz.prog 39 #[.slice xa rows.length xc, .slice ya rows2.length yc, .func (.func 36) #[] #[]] W fun e w' => e = .returned (.bool true) ∧ Hid (Below W.heap.size W w') := by
  have hlen : rows2.length = rows.length := by have := congrArg List.length he; simpa using this.symm
  have hX0 : Hid (∀ w', Below W.heap.size W w' → LtsIn w' (.slice xa rows.length xc) rows) := Lib.hid (fun w' h => hX.below h)
  have hY0 : Hid (∀ w', Below W.heap.size W w' → LtsIn w' (.slice ya rows2.length yc) rows2) := Lib.hid (fun w' h => hY.below h)
  have e5 : Hid (∀ j (h : j < rows.length) (h2 : j < rows2.length), rows[j].x = rows2[j].x) := Lib.hid (fun j h h2 => by
    have := congrArg (fun l : List Lt => l[j]?) he
    simp only [List.getElem?_map, List.getElem?_eq_getElem h, List.getElem?_eq_getElem h2, Option.map_some, Option.some.injEq] at this
    exact this)
  rw [hlen]
  replace hlen := Lib.hid hlen
  replace hfl := Lib.hid hfl
  have hne4 : ((rows.length : Int) != (rows.length : Int)) = false := by simp
  clear hX hY he
  go_enter Tryz.func39, Tryz.ntmps39
  go_wp2_with fail
  clear hne4
  go_loopw [17] (fun v17 wr => ∃ j : Nat, v17 = .int .i64 j ∧ j ≤ rows.length ∧ Hid (Below W.heap.size W wr)) (fun v17 _ => rows.length - (intOf v17).toNat)
  case atStart => exact ⟨0, rfl, Nat.zero_le _, Lib.hid (Below.refl _ _)⟩
  case round =>
    obtain ⟨j, rfl, hj, hb0⟩ := hrel
    by_cases hlt2 : j < rows.length
    · have hlt3 : j < rows2.length := by rw [hlen.out]; exact hlt2
      have hinX := hX0.out wr hb0.out
      have hinY := hY0.out wr hb0.out
      obtain ⟨b, bo, cap, hv, hcX⟩ := hinX.cells_at hlt2
      injection hv with hv1 hv2 hv3
      subst hv1 hv3
      obtain ⟨b2, bo2, cap2, hv, hcY⟩ := hinY.cells_at hlt3
      injection hv with hv1 hv2 hv3
      subst hv1 hv3
      have hsame := e5.out j hlt2 hlt3
      have hfX := hinX.2 _ (List.getElem_mem hlt2)
      have hfY := hinY.2 _ (List.getElem_mem hlt3)
      have hfl1 := hfl.out _ (List.getElem_mem hlt2)
      obtain ⟨z, hz'⟩ : ∃ z, rows[j] = z := ⟨_, rfl⟩
      obtain ⟨y, hy'⟩ : ∃ y, rows2[j] = y := ⟨_, rfl⟩
      rw [hz'] at hcX hsame hfX hfl1
      rw [hy'] at hcY hsame hfY
      have hcall : Hid (∀ w', Below wr.heap.size wr w' → Calls Tryz.prog 36 #[.agg #[.int .u64 z.x.uid, .slice z.a z.x.flags.length z.c, .int .u64 z.x.mod, .string z.x.hash, .int .u64 z.x.size], .agg #[.int .u64 y.x.uid, .slice y.a y.x.flags.length y.c, .int .u64 y.x.mod, .string y.x.hash, .int .u64 y.x.size]] w' (fun e w'' => e = .returned (.bool true) ∧ Hid (Below w'.heap.size w' w''))) := Lib.hid (fun w' hb => eqLt_yes z y (hfX.below hb) (hfY.below hb) hsame hfl1)
      have hi0 : (0 : Int) ≤ (j : Int) := by omega
      have hi1 : (j : Int) < (rows.length : Int) := by omega
      replace hcX : ∀ W', Below wr.heap.size wr W' → W'.cell? ⟨b, bo + j * 5, none⟩ = some (.int .u64 z.x.uid) ∧ W'.cell? ⟨b, bo + j * 5 + 1, none⟩ = some (.slice z.a z.x.flags.length z.c) ∧ W'.cell? ⟨b, bo + j * 5 + 2, none⟩ = some (.int .u64 z.x.mod) ∧ W'.cell? ⟨b, bo + j * 5 + 3, none⟩ = some (.string z.x.hash) ∧ W'.cell? ⟨b, bo + j * 5 + 4, none⟩ = some (.int .u64 z.x.size) := hcX
      obtain ⟨c0, c1, c2, c3, c4⟩ := hcX wr (Below.refl _ _)
      replace hcY : Hid (∀ W', Below wr.heap.size wr W' → W'.cell? ⟨b2, bo2 + j * 5, none⟩ = some (.int .u64 y.x.uid) ∧ W'.cell? ⟨b2, bo2 + j * 5 + 1, none⟩ = some (.slice y.a y.x.flags.length y.c) ∧ W'.cell? ⟨b2, bo2 + j * 5 + 2, none⟩ = some (.int .u64 y.x.mod) ∧ W'.cell? ⟨b2, bo2 + j * 5 + 3, none⟩ = some (.string y.x.hash) ∧ W'.cell? ⟨b2, bo2 + j * 5 + 4, none⟩ = some (.int .u64 y.x.size)) := Lib.hid hcY
      clear hinX hinY hfX hfY hfl1 hz' hy' hlt3 hcX hsame
      go_upto_region 6 with fail
      have hz1 := (Zoo.nil wr).newBox [.int .u64 z.x.uid, .slice z.a z.x.flags.length z.c, .int .u64 z.x.mod, .string z.x.hash, .int .u64 z.x.size].toArray 45
      clear c0 c1 c2 c3 c4
      obtain ⟨B1, hB1⟩ : ∃ B1, wr.heap.size = B1 := ⟨_, rfl⟩
      have hlt1 : B1 < (wr.alloc (.cells [.int .u64 z.x.uid, .slice z.a z.x.flags.length z.c, .int .u64 z.x.mod, .string z.x.hash, .int .u64 z.x.size].toArray 45)).heap.size := by rw [← hB1]; simp
      obtain ⟨c0, c1, c2, c3, c4⟩ := hcY.out _ hz1.bel
      rw [hB1] at hz1 ⊢
      generalize (wr.alloc (.cells #[.int .u64 z.x.uid, .slice z.a z.x.flags.length z.c, .int .u64 z.x.mod, .string z.x.hash, .int .u64 z.x.size] 45)) = W1 at *
      go_upto_region 7 with fail
      have hz2 := hz1.newBox [.int .u64 y.x.uid, .slice y.a y.x.flags.length y.c, .int .u64 y.x.mod, .string y.x.hash, .int .u64 y.x.size].toArray 45
      clear c0 c1 c2 c3 c4 hz1
      obtain ⟨B2, hB2⟩ : ∃ B2, W1.heap.size = B2 := ⟨_, rfl⟩
      rw [hB2] at hz2 hlt1 ⊢
      generalize (W1.alloc (.cells #[.int .u64 y.x.uid, .slice y.a y.x.flags.length y.c, .int .u64 y.x.mod, .string y.x.hash, .int .u64 y.x.size] 45)) = W2 at *
      obtain ⟨hb1, -⟩ := hz2.box 1 rfl
      have c0 : W2.cell? ⟨B1, 0, none⟩ = some (.int .u64 z.x.uid) := box_cell hb1 0
      have c1 : W2.cell? ⟨B1, 1, none⟩ = some (.slice z.a z.x.flags.length z.c) := box_cell hb1 1
      have c2 : W2.cell? ⟨B1, 2, none⟩ = some (.int .u64 z.x.mod) := box_cell hb1 2
      have c3 : W2.cell? ⟨B1, 3, none⟩ = some (.string z.x.hash) := box_cell hb1 3
      have c4 : W2.cell? ⟨B1, 4, none⟩ = some (.int .u64 z.x.size) := box_cell hb1 4
      obtain ⟨hb1, -⟩ := hz2.box 0 rfl
      have d0 : W2.cell? ⟨B2, 0, none⟩ = some (.int .u64 y.x.uid) := box_cell hb1 0
      have d1 : W2.cell? ⟨B2, 1, none⟩ = some (.slice y.a y.x.flags.length y.c) := box_cell hb1 1
      have d2 : W2.cell? ⟨B2, 2, none⟩ = some (.int .u64 y.x.mod) := box_cell hb1 2
      have d3 : W2.cell? ⟨B2, 3, none⟩ = some (.string y.x.hash) := box_cell hb1 3
      have d4 : W2.cell? ⟨B2, 4, none⟩ = some (.int .u64 y.x.size) := box_cell hb1 4
      have hbel2 := Lib.hid hz2.bel
      replace hcall := Lib.hid (hcall.out W2 hz2.bel)
      clear hb1 hz2 hB1 hB2 hcY
      go_wp2_with fail
      refine hcall.out.mono ?_
      rintro e w5 ⟨rfl, hb5⟩
      have hB := Lib.hid (hb0.out.trans ((hbel2.out.trans (hb5.out.mono hbel2.out.size)).mono hb0.out.size))
      clear c0 c1 c2 c3 c4 d0 d1 d2 d3 d4 hcall hb5 hbel2
      go_wp2_with fail
      go_roundw
      case rel => exact ⟨j + 1, by go_num, by omega, hB⟩
      case measure => simp [intOf] <;> omega
    · obtain rfl : j = rows.length := by omega
      go_wp2_with fail
      go_ret
      exact ⟨rfl, hb0⟩
end Go.Proofs.YtpkaoiadjffjiaaGreat
namespace Go.Proofs.YtpkaoiadjffjiaaGreat
set_option linter.unusedSimpArgs false
open Go.RowKit
attribute [local go_sem ↓] Go.wp_at_zero Go.wp_at_succ

theorem BxsIn.cells_at {W : World} {v : Value} {rows : List BxV} (h : BxsIn W v rows) {j : Nat} (hj : j < rows.length) : ∃ b bo cap, v = .slice (some ⟨b, bo, none⟩) rows.length cap ∧
    ∀ W', Below W.heap.size W W' → W'.cell? ⟨b, bo + j * 5, none⟩ = some (.string rows[j].name) ∧ W'.cell? ⟨b, bo + j * 5 + 1, none⟩ = some (.int .u64 rows[j].validity) ∧ W'.cell? ⟨b, bo + j * 5 + 2, none⟩ = some (.int .u64 rows[j].next) ∧ W'.cell? ⟨b, bo + j * 5 + 3, none⟩ = some (.int .u64 rows[j].high) ∧ W'.cell? ⟨b, bo + j * 5 + 4, none⟩ = some rows[j].v := by
  obtain ⟨b, bo, cap, hv, -, hbl, hc⟩ := bxT.rd_cells h.1 hj
  refine ⟨b, bo, cap, hv, fun W' hb => ?_⟩
  have hk : ∀ r u, (bxT.enc rows[j])[r]? = some u → W'.cell? ⟨b, bo + j * 5 + r, none⟩ = some u := fun r u hu => by
    rw [Nat.add_assoc]
    exact (hb.cell (p := ⟨b, bo + (j * 5 + r), none⟩) hbl).trans (hc r u hu)
  exact ⟨hk 0 _ rfl, hk 1 _ rfl, hk 2 _ rfl, hk 3 _ rfl, hk 4 _ rfl⟩
set_option maxRecDepth 100000 in
set_option maxHeartbeats 16000000 in
theorem eqBx_yes {W : World} (X Y : BxV) (A : Nat) (hX : LtsIn W X.v X.rows) (hY : LtsIn W Y.v Y.rows) (he : X.b = Y.b) (hl : X.rows.length ≤ 1000000) (hfl : ∀ y ∈ X.rows, y.x.flags.length * 16 ≤ 140737488355328) (hA : W.cell? ⟨A, 0, none⟩ = some (.func (.func 36) #[] #[])) :
    Calls Tryz.prog 38 #[bxAgg X, bxAgg Y, .pointer (some ⟨A, 0, none⟩)] W fun e w' => e = .returned (.bool true) ∧ Hid (Below W.heap.size W w') := by
  obtain ⟨nm, va, nx, hg, rows, xa, xc⟩ := X
  obtain ⟨nm2, va2, nx2, hg2, rows2, ya, yc⟩ := Y
  unfold BxV.b at he
  dsimp only at he hl hfl
  injection he with e1 e2 e3 e4 e5
  subst e1 e2 e3 e4
  have hs := Lib.hid (fun w (hb : Below W.heap.size W w) => eqLts_yes rows rows2 xa ya xc yc (hX.below hb) (hY.below hb) e5 hl hfl)
  have hlt := World.block_lt_of_cell? _ _ hA
  have hA2 : Hid (∀ w, Below W.heap.size W w → w.cell? ⟨A, 0, none⟩ = some (.func (.func 36) #[] #[])) := Lib.hid (fun w hb => (hb.cell (p := ⟨A, 0, none⟩) hlt).trans hA)
  have n0 : (nm.toList == nm.toList) = true := by simp
  have n1 : ((va : Int) == (va : Int)) = true := by simp
  have n2 : ((nx : Int) == (nx : Int)) = true := by simp
  have n3 : ((hg : Int) == (hg : Int)) = true := by simp
  show Calls Tryz.prog 38 #[.agg #[.string nm, .int .u64 va, .int .u64 nx, .int .u64 hg, .slice xa rows.length xc], .agg #[.string nm, .int .u64 va, .int .u64 nx, .int .u64 hg, .slice ya rows2.length yc], .pointer (some ⟨A, 0, none⟩)] W _
  have hz2 := ((Zoo.nil W).newBox [.string nm, .int .u64 va, .int .u64 nx, .int .u64 hg, .slice xa rows.length xc].toArray 40).newBox [.string nm, .int .u64 va, .int .u64 nx, .int .u64 hg, .slice ya rows2.length yc].toArray 40
  have hlt : W.heap.size < (W.alloc (.cells [.string nm, .int .u64 va, .int .u64 nx, .int .u64 hg, .slice xa rows.length xc].toArray 40)).heap.size := by simp
  generalize hMB : W.heap.size = MB at hz2 hlt
  generalize hRB : (W.alloc (.cells [.string nm, .int .u64 va, .int .u64 nx, .int .u64 hg, .slice xa rows.length xc].toArray 40)).heap.size = RB at hz2 hlt
  generalize hWb : ((W.alloc (.cells [.string nm, .int .u64 va, .int .u64 nx, .int .u64 hg, .slice xa rows.length xc].toArray 40)).alloc (.cells [.string nm, .int .u64 va, .int .u64 nx, .int .u64 hg, .slice ya rows2.length yc].toArray 40)) = Wb at hz2
  obtain ⟨hbX, -⟩ := hz2.box 1 rfl
  have x0 : Wb.cell? ⟨MB, 0, none⟩ = some (.string nm) := box_cell hbX 0
  have x1 : Wb.cell? ⟨MB, 1, none⟩ = some (.int .u64 va) := box_cell hbX 1
  have x2 : Wb.cell? ⟨MB, 2, none⟩ = some (.int .u64 nx) := box_cell hbX 2
  have x3 : Wb.cell? ⟨MB, 3, none⟩ = some (.int .u64 hg) := box_cell hbX 3
  have x4 : Wb.cell? ⟨MB, 4, none⟩ = some (.slice xa rows.length xc) := box_cell hbX 4
  obtain ⟨hbY, -⟩ := hz2.box 0 rfl
  have y0 : Wb.cell? ⟨RB, 0, none⟩ = some (.string nm) := box_cell hbY 0
  have y1 : Wb.cell? ⟨RB, 1, none⟩ = some (.int .u64 va) := box_cell hbY 1
  have y2 : Wb.cell? ⟨RB, 2, none⟩ = some (.int .u64 nx) := box_cell hbY 2
  have y3 : Wb.cell? ⟨RB, 3, none⟩ = some (.int .u64 hg) := box_cell hbY 3
  have y4 : Wb.cell? ⟨RB, 4, none⟩ = some (.slice ya rows2.length yc) := box_cell hbY 4
  have hbel := Lib.hid hz2.bel
  have a0 := hA2.out _ hz2.bel
  clear hbX hbY hX hY hA hA2 hz2
  go_enter Tryz.func38, Tryz.ntmps38
  go_upto_region 1 with fail
  clear hWb hRB
  go_wp2_with (go_at_call 39; refine (hs.out _ hbel.out).mono ?_; rintro e w3 ⟨rfl, hb3⟩)
  go_ret
  exact ⟨rfl, Lib.hid (by rw [← hMB]; exact hbel.out.trans (hb3.out.mono hbel.out.size))⟩
set_option maxRecDepth 100000 in
set_option maxHeartbeats 16000000 in
theorem eqBxs_yes {W : World} (rows rows2 : List BxV) (A : Nat) (xa ya : Option Addr) (xc yc : Nat) (hX : BxsIn W (.slice xa rows.length xc) rows) (hY : BxsIn W (.slice ya rows2.length yc) rows2) (he : rows.map BxV.b = rows2.map BxV.b) (hl : rows.length ≤ 1000000) (hfl : ∀ y ∈ rows, y.rows.length ≤ 1000000 ∧ ∀ x ∈ y.rows, x.x.flags.length * 16 ≤ 140737488355328) (hA : W.cell? ⟨A, 0, none⟩ = some (.func (.func 36) #[] #[])) :
    Calls Tryz.prog 42 #[.slice xa rows.length xc, .slice ya rows2.length yc, .func (.func 38) #[] #[.pointer (some ⟨A, 0, none⟩)]] W fun e w' => e = .returned (.bool true) ∧ Hid (Below W.heap.size W w') := by
  have hlen : rows2.length = rows.length := by have := congrArg List.length he; simpa using this.symm
  have hX0 : Hid (∀ w', Below W.heap.size W w' → BxsIn w' (.slice xa rows.length xc) rows) := Lib.hid (fun w' h => hX.below h)
  have hY0 : Hid (∀ w', Below W.heap.size W w' → BxsIn w' (.slice ya rows2.length yc) rows2) := Lib.hid (fun w' h => hY.below h)
  have e5 : Hid (∀ j (h : j < rows.length) (h2 : j < rows2.length), rows[j].b = rows2[j].b) := Lib.hid (fun j h h2 => by
    have := congrArg (fun l : List Bx => l[j]?) he
    simp only [List.getElem?_map, List.getElem?_eq_getElem h, List.getElem?_eq_getElem h2, Option.map_some, Option.some.injEq] at this
    exact this)
  rw [hlen]
  have hlt := World.block_lt_of_cell? _ _ hA
  have hA2 : Hid (∀ w, Below W.heap.size W w → w.cell? ⟨A, 0, none⟩ = some (.func (.func 36) #[] #[])) := Lib.hid (fun w hb => (hb.cell (p := ⟨A, 0, none⟩) hlt).trans hA)
  clear hA hlt
  replace hlen := Lib.hid hlen
  replace hfl := Lib.hid hfl
  have hne4 : ((rows.length : Int) != (rows.length : Int)) = false := by simp
  clear hX hY he
  go_enter Tryz.func42, Tryz.ntmps42
  go_wp2_with fail
  clear hne4
  go_loopw [17] (fun v17 wr => ∃ j : Nat, v17 = .int .i64 j ∧ j ≤ rows.length ∧ Hid (Below W.heap.size W wr)) (fun v17 _ => rows.length - (intOf v17).toNat)
  case atStart => exact ⟨0, rfl, Nat.zero_le _, Lib.hid (Below.refl _ _)⟩
  case round =>
    obtain ⟨j, rfl, hj, hb0⟩ := hrel
    by_cases hlt2 : j < rows.length
    · have hlt3 : j < rows2.length := by rw [hlen.out]; exact hlt2
      have hinX := hX0.out wr hb0.out
      have hinY := hY0.out wr hb0.out
      obtain ⟨b, bo, cap, hv, hcX⟩ := hinX.cells_at hlt2
      injection hv with hv1 hv2 hv3
      subst hv1 hv3
      obtain ⟨b2, bo2, cap2, hv, hcY⟩ := hinY.cells_at hlt3
      injection hv with hv1 hv2 hv3
      subst hv1 hv3
      have hsame := e5.out j hlt2 hlt3
      have hfX := hinX.2 _ (List.getElem_mem hlt2)
      have hfY := hinY.2 _ (List.getElem_mem hlt3)
      have hfl1 := hfl.out _ (List.getElem_mem hlt2)
      obtain ⟨z, hz'⟩ : ∃ z, rows[j] = z := ⟨_, rfl⟩
      obtain ⟨y, hy'⟩ : ∃ y, rows2[j] = y := ⟨_, rfl⟩
      rw [hz'] at hcX hsame hfX hfl1
      rw [hy'] at hcY hsame hfY
      have hcall : Hid (∀ w', Below wr.heap.size wr w' → Calls Tryz.prog 38 #[.agg #[.string z.name, .int .u64 z.validity, .int .u64 z.next, .int .u64 z.high, .slice z.a z.rows.length z.c], .agg #[.string y.name, .int .u64 y.validity, .int .u64 y.next, .int .u64 y.high, .slice y.a y.rows.length y.c], .pointer (some ⟨A, 0, none⟩)] w' (fun e w'' => e = .returned (.bool true) ∧ Hid (Below w'.heap.size w' w''))) := Lib.hid (fun w' hb => eqBx_yes z y A (hfX.below hb) (hfY.below hb) hsame hfl1.1 hfl1.2 (hA2.out w' (hb0.out.trans (hb.mono hb0.out.size))))
      have hi0 : (0 : Int) ≤ (j : Int) := by omega
      have hi1 : (j : Int) < (rows.length : Int) := by omega
      replace hcX : ∀ W', Below wr.heap.size wr W' → W'.cell? ⟨b, bo + j * 5, none⟩ = some (.string z.name) ∧ W'.cell? ⟨b, bo + j * 5 + 1, none⟩ = some (.int .u64 z.validity) ∧ W'.cell? ⟨b, bo + j * 5 + 2, none⟩ = some (.int .u64 z.next) ∧ W'.cell? ⟨b, bo + j * 5 + 3, none⟩ = some (.int .u64 z.high) ∧ W'.cell? ⟨b, bo + j * 5 + 4, none⟩ = some (.slice z.a z.rows.length z.c) := hcX
      obtain ⟨c0, c1, c2, c3, c4⟩ := hcX wr (Below.refl _ _)
      replace hcY : Hid (∀ W', Below wr.heap.size wr W' → W'.cell? ⟨b2, bo2 + j * 5, none⟩ = some (.string y.name) ∧ W'.cell? ⟨b2, bo2 + j * 5 + 1, none⟩ = some (.int .u64 y.validity) ∧ W'.cell? ⟨b2, bo2 + j * 5 + 2, none⟩ = some (.int .u64 y.next) ∧ W'.cell? ⟨b2, bo2 + j * 5 + 3, none⟩ = some (.int .u64 y.high) ∧ W'.cell? ⟨b2, bo2 + j * 5 + 4, none⟩ = some (.slice y.a y.rows.length y.c)) := Lib.hid hcY
      clear hinX hinY hfX hfY hfl1 hz' hy' hlt3 hcX hsame
      go_upto_region 6 with fail
      have hz1 := (Zoo.nil wr).newBox [.string z.name, .int .u64 z.validity, .int .u64 z.next, .int .u64 z.high, .slice z.a z.rows.length z.c].toArray 40
      clear c0 c1 c2 c3 c4
      obtain ⟨B1, hB1⟩ : ∃ B1, wr.heap.size = B1 := ⟨_, rfl⟩
      have hlt1 : B1 < (wr.alloc (.cells [.string z.name, .int .u64 z.validity, .int .u64 z.next, .int .u64 z.high, .slice z.a z.rows.length z.c].toArray 40)).heap.size := by rw [← hB1]; simp
      obtain ⟨c0, c1, c2, c3, c4⟩ := hcY.out _ hz1.bel
      rw [hB1] at hz1 ⊢
      generalize (wr.alloc (.cells #[.string z.name, .int .u64 z.validity, .int .u64 z.next, .int .u64 z.high, .slice z.a z.rows.length z.c] 40)) = W1 at *
      go_upto_region 7 with fail
      have hz2 := hz1.newBox [.string y.name, .int .u64 y.validity, .int .u64 y.next, .int .u64 y.high, .slice y.a y.rows.length y.c].toArray 40
      clear c0 c1 c2 c3 c4 hz1
      obtain ⟨B2, hB2⟩ : ∃ B2, W1.heap.size = B2 := ⟨_, rfl⟩
      rw [hB2] at hz2 hlt1 ⊢
      generalize (W1.alloc (.cells #[.string y.name, .int .u64 y.validity, .int .u64 y.next, .int .u64 y.high, .slice y.a y.rows.length y.c] 40)) = W2 at *
      obtain ⟨hb1, -⟩ := hz2.box 1 rfl
      have c0 : W2.cell? ⟨B1, 0, none⟩ = some (.string z.name) := box_cell hb1 0
      have c1 : W2.cell? ⟨B1, 1, none⟩ = some (.int .u64 z.validity) := box_cell hb1 1
      have c2 : W2.cell? ⟨B1, 2, none⟩ = some (.int .u64 z.next) := box_cell hb1 2
      have c3 : W2.cell? ⟨B1, 3, none⟩ = some (.int .u64 z.high) := box_cell hb1 3
      have c4 : W2.cell? ⟨B1, 4, none⟩ = some (.slice z.a z.rows.length z.c) := box_cell hb1 4
      obtain ⟨hb1, -⟩ := hz2.box 0 rfl
      have d0 : W2.cell? ⟨B2, 0, none⟩ = some (.string y.name) := box_cell hb1 0
      have d1 : W2.cell? ⟨B2, 1, none⟩ = some (.int .u64 y.validity) := box_cell hb1 1
      have d2 : W2.cell? ⟨B2, 2, none⟩ = some (.int .u64 y.next) := box_cell hb1 2
      have d3 : W2.cell? ⟨B2, 3, none⟩ = some (.int .u64 y.high) := box_cell hb1 3
      have d4 : W2.cell? ⟨B2, 4, none⟩ = some (.slice y.a y.rows.length y.c) := box_cell hb1 4
      have hbel2 := Lib.hid hz2.bel
      replace hcall := Lib.hid (hcall.out W2 hz2.bel)
      clear hb1 hz2 hB1 hB2 hcY
      go_wp2_with fail
      refine hcall.out.mono ?_
      rintro e w5 ⟨rfl, hb5⟩
      have hB := Lib.hid (hb0.out.trans ((hbel2.out.trans (hb5.out.mono hbel2.out.size)).mono hb0.out.size))
      clear c0 c1 c2 c3 c4 d0 d1 d2 d3 d4 hcall hb5 hbel2
      go_wp2_with fail
      go_roundw
      case rel => exact ⟨j + 1, by go_num, by omega, hB⟩
      case measure => simp [intOf] <;> omega
    · obtain rfl : j = rows.length := by omega
      go_wp2_with fail
      go_ret
      exact ⟨rfl, hb0⟩
end Go.Proofs.YtpkaoiadjffjiaaGreat
