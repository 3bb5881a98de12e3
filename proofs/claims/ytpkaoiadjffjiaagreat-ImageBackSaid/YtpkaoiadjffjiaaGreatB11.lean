/- mail.Right, asked about any state: the exact answer. (written by tools/gen_ImT.py) -/
import Derived.Test.YtpkaoiadjffjiaaGreatB09
import Derived.Test.YtpkaoiadjffjiaaGreatB10
namespace Go.Proofs.YtpkaoiadjffjiaaGreat
set_option linter.unusedSimpArgs false
open Go.RowKit
attribute [local go_sem ↓] Go.wp_at_zero Go.wp_at_succ

/-- is a mailbox of this validity there -/
theorem twin_any (v : Value) (l : List BxV) (va : Nat) (X : Nat) (hlen : l.length ≤ 100000) (W : World) (ho : Rd W v l.length (bxT.cells l)) (hX : W.cell? ⟨X, 1, none⟩ = some (.int .u64 va)) :
    Calls Tryz.prog 43 #[v, .func (.func 44) #[] #[.pointer (some ⟨X, 0, none⟩)]] W fun e w' => ∃ B : Bool, e = .returned (.bool B) ∧ Hid (B = false → ∀ x ∈ l, x.validity ≠ va) ∧ Hid (Below W.heap.size W w') := by
  have hidx := Lib.hid (twinIdx_any v l va X hlen W ho hX)
  have hcs := Lib.hid (idx_cases (fun x : BxV => x.validity == va) l)
  obtain ⟨ao, cap, hv, -⟩ := ho
  subst hv
  clear hX
  go_enter Tryz.func43, Tryz.ntmps43
  go_wp2_with fail
  refine hidx.out.mono ?_
  rintro e w2 ⟨r, rfl, hr, hb2⟩
  rcases hcs.out with ⟨h1, h2⟩ | ⟨k, hk, h1, -⟩
  · obtain rfl : r = -1 := hr.out.trans h1
    have hno := Lib.hid h2
    clear hidx hcs hr h1 h2
    go_wp2_with fail
    go_ret
    exact ⟨false, rfl, Lib.hid (fun _ x hx => by have := hno.out x hx; simpa using this), hb2⟩
  · obtain rfl : r = (k : Int) := hr.out.trans h1
    have hk0 : (0 : Int) ≤ (k : Int) := by omega
    clear hidx hcs hr h1 hk
    go_wp2_with fail
    go_ret
    exact ⟨true, rfl, Lib.hid (fun h => (by cases h)), hb2⟩
/-- mailboxes that may be, so far -/
structure BUr (m : Ml) (i : Nat) : Prop where
  bx : ∀ b ∈ m.boxes.take i, BoxP b m.nv
  nm : (m.boxes.take i).Pairwise (fun x y => bxltB x y = true)
  vl : (m.boxes.take i).Pairwise (fun x y => x.validity ≠ y.validity)
theorem BUr.zero (m : Ml) : BUr m 0 := ⟨fun x hx => by simp at hx, by simp, by simp⟩
theorem BUr.step {m : Ml} {i : Nat} (h : BUr m i) (hi : i < m.boxes.length) (hb : BoxP m.boxes[i] m.nv) (hk : 0 < i → ∀ (hk : i - 1 < m.boxes.length), bxltB m.boxes[i - 1] m.boxes[i] = true) (hv : ∀ b ∈ m.boxes.take i, b.validity ≠ m.boxes[i].validity) : BUr m (i + 1) := by
  have hlt : ∀ b ∈ m.boxes.take i, bxltB b m.boxes[i] = true := fun b hm => by
    obtain ⟨k, hkl, rfl⟩ := List.mem_iff_getElem.1 hm
    have hkl2 := hkl
    rw [List.length_take] at hkl2
    have h1 := hk (by omega) (by omega)
    rw [List.getElem_take]
    by_cases e : k = i - 1
    · subst e; exact h1
    · have h2 := List.pairwise_iff_getElem.1 h.nm k (i - 1) hkl (by rw [List.length_take]; omega) (by omega)
      rw [List.getElem_take, List.getElem_take] at h2
      exact bytes_sto.trans _ _ _ h2 h1
  refine ⟨fun b hm => ?_, ?_, ?_⟩
  · rw [List.take_succ_eq_append_getElem hi] at hm
    rcases List.mem_append.1 hm with hm | hm
    · exact h.bx b hm
    · rw [List.mem_singleton.1 hm]; exact hb
  · rw [List.take_succ_eq_append_getElem hi]
    refine List.pairwise_append.2 ⟨h.nm, by simp, fun x hx y hy => ?_⟩
    rw [List.mem_singleton.1 hy]; exact hlt x hx
  · rw [List.take_succ_eq_append_getElem hi]
    refine List.pairwise_append.2 ⟨h.vl, by simp, fun x hx y hy => ?_⟩
    rw [List.mem_singleton.1 hy]; exact hv x hx
/-- what a state must be for Right to be asked about it here -/
structure AnySz (m : Ml) : Prop where
  nb : m.boxes.length ≤ 1000
  nh : m.homes.length ≤ 1000
  ns : m.seats.length ≤ 1000
  nm : ∀ b ∈ m.boxes, b.name.size ≤ maxLen
  nl : ∀ b ∈ m.boxes, b.letters.length ≤ 100000
  fl : ∀ b ∈ m.boxes, ∀ x ∈ b.letters, x.flags.length ≤ 10000 ∧ Sized x.flags
set_option maxRecDepth 100000 in
set_option maxHeartbeats 16000000 in
theorem right_no {W : World} (v : Value) {m : Ml} (hin : MlIn W v m) (hn : ¬ RightP m) (hsz : AnySz m) : Calls Tryz.prog 10 #[v] W fun e w' => e = .returned (.bool false) ∧ Hid (Below W.heap.size W w') := by
  have hin0 : Hid (∀ w', Below W.heap.size W w' → MlIn w' v m) := Lib.hid (fun w' h => hin.below h)
  obtain ⟨vb, vh, vs, bs, rfl, hbs, hib, hih, his⟩ := hin
  have hib0 : ∀ w', Below W.heap.size W w' → BxsIn w' vb bs := fun w' h => hib.below h
  obtain ⟨ab, cb, rfl, -⟩ := hib.1
  obtain ⟨ah, ch, rfl, -⟩ := hih
  obtain ⟨as_, cs, rfl, -⟩ := his
  replace hib0 := Lib.hid hib0
  unfold mlVal at hin0 ⊢
  have hlb : bs.length = m.boxes.length := by rw [← hbs, List.length_map]
  have hnb : bs.length ≤ 1000 := by have := hsz.nb; omega
  have hbsz : ∀ x ∈ bs, x.name.size ≤ maxLen ∧ x.rows.length ≤ 100000 ∧ ∀ y ∈ x.rows, y.x.flags.length ≤ 10000 ∧ Sized y.x.flags := fun x hx => by
    have h1 : x.b ∈ m.boxes := by rw [← hbs]; exact List.mem_map.2 ⟨x, hx, rfl⟩
    refine ⟨hsz.nm _ h1, ?_, fun y hy => hsz.fl _ h1 y.x (List.mem_map.2 ⟨y, hy, rfl⟩)⟩
    have := hsz.nl _ h1
    unfold BxV.b at this
    rwa [List.length_map] at this
  have hz1 := (Zoo.nil W).newBox [.slice ab bs.length cb, .int .u64 m.nv, .slice ah m.homes.length ch, .slice as_ m.seats.length cs, .int .u64 m.ns, .int .u64 m.sweeps].toArray 27
  generalize hMB : W.heap.size = MB at hz1
  generalize hWa : (W.alloc (.cells [.slice ab bs.length cb, .int .u64 m.nv, .slice ah m.homes.length ch, .slice as_ m.seats.length cs, .int .u64 m.ns, .int .u64 m.sweeps].toArray 27)) = Wa at hz1
  obtain ⟨hbB, -⟩ := hz1.box 0 rfl
  have x0 : Wa.cell? ⟨MB, 0, none⟩ = some (.slice ab bs.length cb) := box_cell hbB 0
  have x1 : Wa.cell? ⟨MB, 1, none⟩ = some (.int .u64 m.nv) := box_cell hbB 1
  have x2 : Wa.cell? ⟨MB, 2, none⟩ = some (.slice ah m.homes.length ch) := box_cell hbB 2
  have x3 : Wa.cell? ⟨MB, 3, none⟩ = some (.slice as_ m.seats.length cs) := box_cell hbB 3
  have x4 : Wa.cell? ⟨MB, 4, none⟩ = some (.int .u64 m.ns) := box_cell hbB 4
  have x5 : Wa.cell? ⟨MB, 5, none⟩ = some (.int .u64 m.sweeps) := box_cell hbB 5
  have hbF := Lib.hid hz1.bel
  have hl5 := Lib.hid (And.intro hsz.nh hsz.ns)
  replace hbsz := Lib.hid hbsz
  replace hn := Lib.hid hn
  replace hz1 := Lib.hid hz1
  replace hbs := Lib.hid hbs
  replace hlb := Lib.hid hlb
  clear hib hbB hsz
  by_cases t0 : 1 ≤ bs.length
  case neg =>
    have q0 : decide ((bs.length : Int) < 1) = true := decide_eq_true (by omega)
    have q0b : decide (bs.length < 1) = true := decide_eq_true (by omega)
    clear t0
    go_enter Tryz.func10, Tryz.ntmps10
    go_upto_region 1 with fail
    clear hWa
    go_wp2_with fail
    go_ret
    first | exact ⟨rfl, hbF⟩ | (rw [← hMB]; exact ⟨rfl, hbF⟩)
  have q0 : decide ((bs.length : Int) < 1) = false := decide_eq_false (by omega)
  have q0b : decide (bs.length < 1) = false := decide_eq_false (by omega)
  by_cases t1 : bs.length ≤ 8
  case neg =>
    have q1 : decide ((8 : Int) < (bs.length : Int)) = true := decide_eq_true (by omega)
    clear t0 t1
    go_enter Tryz.func10, Tryz.ntmps10
    go_upto_region 1 with fail
    clear hWa
    go_wp2_with fail
    go_ret
    first | exact ⟨rfl, hbF⟩ | (rw [← hMB]; exact ⟨rfl, hbF⟩)
  have q1 : decide ((8 : Int) < (bs.length : Int)) = false := decide_eq_false (by omega)
  by_cases t2 : m.nv ≤ 4294967296
  case neg =>
    have q2 : decide ((4294967296 : Int) < (m.nv : Int)) = true := decide_eq_true (by omega)
    clear t0 t1 t2
    go_enter Tryz.func10, Tryz.ntmps10
    go_upto_region 1 with fail
    clear hWa
    go_wp2_with fail
    go_ret
    first | exact ⟨rfl, hbF⟩ | (rw [← hMB]; exact ⟨rfl, hbF⟩)
  have q2 : decide ((4294967296 : Int) < (m.nv : Int)) = false := decide_eq_false (by omega)
  by_cases t3 : 1 ≤ m.ns
  case neg =>
    have q3 : decide ((m.ns : Int) < 1) = true := decide_eq_true (by omega)
    clear t0 t1 t2 t3
    go_enter Tryz.func10, Tryz.ntmps10
    go_upto_region 1 with fail
    clear hWa
    go_wp2_with fail
    go_ret
    first | exact ⟨rfl, hbF⟩ | (rw [← hMB]; exact ⟨rfl, hbF⟩)
  have q3 : decide ((m.ns : Int) < 1) = false := decide_eq_false (by omega)
  by_cases t4 : m.ns ≤ 4611686018427387904
  case neg =>
    have q4 : decide ((4611686018427387904 : Int) < (m.ns : Int)) = true := decide_eq_true (by omega)
    clear t0 t1 t2 t3 t4
    go_enter Tryz.func10, Tryz.ntmps10
    go_upto_region 1 with fail
    clear hWa
    go_wp2_with fail
    go_ret
    first | exact ⟨rfl, hbF⟩ | (rw [← hMB]; exact ⟨rfl, hbF⟩)
  have q4 : decide ((4611686018427387904 : Int) < (m.ns : Int)) = false := decide_eq_false (by omega)
  by_cases t5 : m.sweeps ≤ 9223372036854775807
  case neg =>
    have q5 : decide ((9223372036854775807 : Int) < (m.sweeps : Int)) = true := decide_eq_true (by omega)
    clear t0 t1 t2 t3 t4 t5
    go_enter Tryz.func10, Tryz.ntmps10
    go_upto_region 1 with fail
    clear hWa
    go_wp2_with fail
    go_ret
    first | exact ⟨rfl, hbF⟩ | (rw [← hMB]; exact ⟨rfl, hbF⟩)
  have q5 : decide ((9223372036854775807 : Int) < (m.sweeps : Int)) = false := decide_eq_false (by omega)
  by_cases t6 : m.seats.length ≤ 16
  case neg =>
    have q6 : decide ((16 : Int) < (m.seats.length : Int)) = true := decide_eq_true (by omega)
    clear t0 t1 t2 t3 t4 t5 t6
    go_enter Tryz.func10, Tryz.ntmps10
    go_upto_region 1 with fail
    clear hWa
    go_wp2_with fail
    go_ret
    first | exact ⟨rfl, hbF⟩ | (rw [← hMB]; exact ⟨rfl, hbF⟩)
  have q6 : decide ((16 : Int) < (m.seats.length : Int)) = false := decide_eq_false (by omega)
  have hl8 : bs.length ≤ 8 := t1
  have hn2 : Hid (BUr m m.boxes.length → (m.boxes.any isInbox) = true → SeatsP m → False) := Lib.hid (fun h hi hs => hn.out (by
    obtain ⟨b, hb, e⟩ := List.any_eq_true.1 hi
    have h1 := h.bx
    have h2 := h.nm
    have h3 := h.vl
    rw [List.take_length] at h1 h2 h3
    exact ⟨by rw [← hlb.out]; exact t1, t2, t3, t4, t5, t6, h1, h2, h3, ⟨b, hb, by unfold isInbox at e; exact eq_of_beq e⟩, hs⟩))
  have hn3 : Hid (BUr m m.boxes.length → (m.boxes.any isInbox) = true → SeatsP m → RightP m) := Lib.hid (fun h hi hs => absurd (hn2.out h hi hs) id)
  clear t0 t1 t2 t3 t4 t5 t6
  go_enter Tryz.func10, Tryz.ntmps10
  go_upto_region 1 with fail
  clear hWa
  go_wp2_with fail
  clear x0 x1 x2 x3 x4 x5 q0 q0b q1 q2 q3 q4 q5 q6
  go_loopw [3, 46] (fun v3 v46 wr => ∃ (j : Nat) (ib : Bool), v46 = .int .i64 j ∧ v3 = .bool ib ∧ j ≤ bs.length ∧ Hid (ib = (m.boxes.take j).any isInbox) ∧ Hid (BUr m j) ∧ Hid (Zoo W wr [boxT MB [.slice ab bs.length cb, .int .u64 m.nv, .slice ah m.homes.length ch, .slice as_ m.seats.length cs, .int .u64 m.ns, .int .u64 m.sweeps].toArray 27])) (fun _ v46 _ => bs.length - (intOf v46).toNat)
  case atStart => exact ⟨0, false, rfl, rfl, Nat.zero_le _, Lib.hid (by simp), Lib.hid (BUr.zero m), hz1⟩
  case round =>
    clear hz1 hbF
    obtain ⟨j, ib, rfl, rfl, hj, hib, hup, hz⟩ := hrel
    obtain ⟨hbB, -⟩ := hz.out.box 0 rfl
    by_cases hlt : j < bs.length
    · have hin1 := hib0.out wr hz.out.bel
      obtain ⟨b, bo, cap, hv, hcap, hc⟩ := bx_at hin1 hlt
      injection hv with hv1 hv2 hv3
      subst hv1 hv3
      have hget : ∀ k (hk : k < bs.length), ∃ hm : k < m.boxes.length, m.boxes[k] = bs[k].b := fun k hk => by
        have h1 : m.boxes[k]? = some bs[k].b := by rw [← hbs.out, List.getElem?_map, List.getElem?_eq_getElem hk]; rfl
        exact List.getElem?_eq_some_iff.1 h1
      obtain ⟨hjm, hmx2⟩ := hget j hlt
      have hlets := hin1.2 _ (List.getElem_mem hlt)
      have hszs := hbsz.out _ (List.getElem_mem hlt)
      have hprev : 0 < j → ∃ u : ByteArray, (∀ W', Below wr.heap.size wr W' → W'.cell? ⟨b, bo + (j - 1) * 5, none⟩ = some (.string u)) ∧ Hid (∀ (hk : j - 1 < m.boxes.length), Op.bytesLess u.toList bs[j].name.toList = true → bxltB m.boxes[j - 1] bs[j].b = true) := by
        intro hjp
        have hkl : j - 1 < bs.length := by omega
        obtain ⟨b', bo', cap', hv', -, hc'⟩ := bx_at hin1 hkl
        injection hv' with h1 h2 h3
        injection h1 with h1
        injection h1 with h1 h4
        subst h1 h4
        refine ⟨bs[j - 1].name, fun W' hb => (hc' W' hb).1, Lib.hid (fun hk h => ?_)⟩
        obtain ⟨hm, e⟩ := hget (j - 1) hkl
        rw [e]
        rw [bytesLess_eq, ByteArray.toList_eq, ByteArray.toList_eq] at h
        exact h
      have htk : ∀ c ∈ m.boxes.take j, ∃ x ∈ bs.take j, c = x.b := fun c hc2 => by
        rw [← hbs.out, ← List.map_take] at hc2
        obtain ⟨x, hx, e⟩ := List.mem_map.1 hc2
        exact ⟨x, hx, e.symm⟩
      have hany : (m.boxes.take (j + 1)).any isInbox = ((m.boxes.take j).any isInbox || isInbox bs[j].b) := by rw [List.take_succ_eq_append_getElem hjm, List.any_append, hmx2]; simp
      have hst : ∀ (hP : BoxP bs[j].b m.nv) (hk : 0 < j → ∀ (hk : j - 1 < m.boxes.length), bxltB m.boxes[j - 1] bs[j].b = true) (hv : ∀ x ∈ bs.take j, x.validity ≠ bs[j].validity), BUr m (j + 1) := fun hP hk hv => hup.out.step hjm (by rw [hmx2]; exact hP) (fun h1 h2 => by rw [hmx2]; exact hk h1 h2) (fun c hc2 => by
        obtain ⟨x, hx, e⟩ := htk c hc2
        rw [e, hmx2]
        exact hv x hx)
      obtain ⟨x, hx'⟩ : ∃ x, bs[j] = x := ⟨_, rfl⟩
      rw [hx'] at hc hprev hlets hany hst hszs
      obtain ⟨r0, r1, r2, r3, r4⟩ := hc wr (Below.refl _ _)
      obtain ⟨tst, htst⟩ : ∃ tst, (x.name.toList == [73, 78, 66, 79, 88]) = tst := ⟨_, rfl⟩
      have hib2 : Hid ((ib || tst) = (m.boxes.take (j + 1)).any isInbox) := Lib.hid (by rw [hany, ← hib.out, ← htst]; unfold isInbox; rw [ByteArray.toList_eq]; rfl)
      have hcall := Lib.hid (fun w' (h : Below wr.heap.size wr w') => boxRight_any (W := w') x m.nv (hlets.below h) hszs.1 hszs.2.1 hszs.2.2)
      have hj0 : (0 : Int) ≤ (j : Int) := by omega
      have hj1 : (j : Int) < (bs.length : Int) := by omega
      have hjc : (j : Int) ≤ (cb : Int) := by omega
      have hjc3 : j ≤ cb := by omega
      have htake : Hid (∀ w', Below W.heap.size W w' → Rd w' (.slice (some ⟨b, bo, none⟩) (bs.take j).length cb) (bs.take j).length (bxT.cells (bs.take j))) := Lib.hid (fun w' h => rd_take2 bxT (hib0.out w' h).1 hj)
      rw [show (bs.take j).length = j from by rw [List.length_take]; omega] at htake
      replace hprev := Lib.hid hprev
      replace hst := Lib.hid hst
      have hzb := Lib.hid (hz.out.newBox [.string x.name, .int .u64 x.validity, .int .u64 x.next, .int .u64 x.high, .slice x.a x.rows.length x.c].toArray 40)
      have hbw := Lib.hid ((Below.refl wr.heap.size wr).alloc (Nat.le_refl _) (.cells [.string x.name, .int .u64 x.validity, .int .u64 x.next, .int .u64 x.high, .slice x.a x.rows.length x.c].toArray 40))
      clear hc hin1 hx' hbB hany hget hmx2 hjm hlets hib hszs htk hup
      go_upto_region 7 with fail
      generalize hLbE : wr.heap.size = Lb at hzb hprev hbw hcall ⊢
      generalize (wr.alloc (.cells [.string x.name, .int .u64 x.validity, .int .u64 x.next, .int .u64 x.high, .slice x.a x.rows.length x.c].toArray 40)) = wl at hzb hbw ⊢
      clear r0 r1 r2 r3 r4
      obtain ⟨hbL, -⟩ := hzb.out.box 0 rfl
      obtain ⟨hbB, -⟩ := hzb.out.box 1 rfl
      have y0 : wl.cell? ⟨Lb, 0, none⟩ = some (.string x.name) := box_cell hbL 0
      have x0 : wl.cell? ⟨MB, 0, none⟩ = some (.slice (some ⟨b, bo, none⟩) bs.length cb) := box_cell hbB 0
      have htwc := Lib.hid (twin_any (.slice (some ⟨b, bo, none⟩) j cb) (bs.take j) x.validity Lb (by rw [List.length_take]; omega) wl (by have := htake.out wl hzb.out.bel; rw [show (bs.take j).length = j from by rw [List.length_take]; omega]; exact this) (box_cell hbL 1))
      clear hbL hbB
      go_cut [3] (fun v3 wx => v3 = .bool (ib || tst) ∧ wx = wl)
      case first =>
        cases ib with
        | true =>
          go_wp2_with fail
          go_meet
          case rel => exact ⟨rfl, rfl⟩
        | false =>
          cases tst with
          | true =>
            go_wp2_with fail
            go_meet
            case rel => exact ⟨rfl, rfl⟩
          | false =>
            go_wp2_with fail
            go_meet
            case rel => exact ⟨rfl, rfl⟩
      case rest =>
      obtain ⟨rfl, rfl⟩ := hcut
      clear htst
      go_wp2_with fail
      refine htwc.out.mono ?_
      rintro e w7 ⟨tw, rfl, htw, hb7⟩
      dsimp only
      have hz7 := Lib.hid (hzb.out.below hb7.out)
      have hbw7 := Lib.hid (hbw.out.trans (hb7.out.mono (by first | exact hbw.out.size | (rw [← hLbE]; exact hbw.out.size))))
      clear y0 x0 htwc hzb hbw hb7 htake hz
      go_upto_region 9 with fail
      have hzd := hz7.out.drew
      have hbd := hbw7.out.drew
      clear hz7 hbw7
      obtain ⟨hbL, -⟩ := hzd.box 0 rfl
      obtain ⟨hbB, -⟩ := hzd.box 1 rfl
      cases tw with
      | true =>
        have hbF := Lib.hid hzd.bel
        refine wp_region_hd (fun w' => w'.cell? ⟨Lb, 0, none⟩ = some (.string x.name) ∧ w'.cell? ⟨Lb, 1, none⟩ = some (.int .u64 x.validity) ∧ w'.cell? ⟨Lb, 2, none⟩ = some (.int .u64 x.next) ∧ w'.cell? ⟨Lb, 3, none⟩ = some (.int .u64 x.high) ∧ w'.cell? ⟨Lb, 4, none⟩ = some (.slice x.a x.rows.length x.c) ∧ w'.cell? ⟨MB, 0, none⟩ = some (.slice (some ⟨b, bo, none⟩) bs.length cb) ∧ w'.cell? ⟨MB, 1, none⟩ = some (.int .u64 m.nv)) 23 1 (by kernel_rfl) rfl ⟨by kernel_rfl, by kernel_rfl, by kernel_rfl, by decide⟩ ⟨box_cell hbL 0, box_cell hbL 1, box_cell hbL 2, box_cell hbL 3, box_cell hbL 4, box_cell hbB 0, box_cell hbB 1⟩ (fun hok hS0 => ?_)
        generalize w7.drew = Wd at *
        refine Hd.take (i := 0) (v := ?tv1) hok rfl (by kernel_rfl) (fun _ _ _ h => h) (Or.inl ⟨by rfl, ?ty1⟩) (by assumption) ?tr1
        case ty1 => (intro w hSw; (try dsimp only at hSw); go_simp; (try with_reducible rfl))
        try simp only [List.getElem_toArray, List.getElem_cons_succ, List.getElem_cons_zero, Act.put, List.setIfInBounds_toArray, List.set_cons_zero, List.set_cons_succ]
        refine Hd.take (i := 1) (v := ?tv2) hok rfl (by kernel_rfl) (fun _ _ _ h => h) (Or.inl ⟨by rfl, ?ty2⟩) (by assumption) ?tr2
        case ty2 => (intro w hSw; (try dsimp only at hSw); go_simp; (try with_reducible rfl))
        try simp only [List.getElem_toArray, List.getElem_cons_succ, List.getElem_cons_zero, Act.put, List.setIfInBounds_toArray, List.set_cons_zero, List.set_cons_succ]
        refine Hd.take (i := 2) (v := _) hok rfl (by kernel_rfl) (fun _ _ _ h => h) (Or.inr ⟨by rfl, rfl⟩) (by assumption) ?_
        try simp only [List.getElem_toArray, List.getElem_cons_succ, List.getElem_cons_zero, Act.put, List.setIfInBounds_toArray, List.set_cons_zero, List.set_cons_succ]
        refine Hd.take (i := 3) (v := _) hok rfl (by kernel_rfl) (fun _ _ _ h => h) (Or.inr ⟨by rfl, rfl⟩) (by assumption) ?_
        try simp only [List.getElem_toArray, List.getElem_cons_succ, List.getElem_cons_zero, Act.put, List.setIfInBounds_toArray, List.set_cons_zero, List.set_cons_succ]
        refine Hd.take (i := 4) (v := _) hok rfl (by kernel_rfl) (fun _ _ _ h => h) (Or.inr ⟨by rfl, rfl⟩) (by assumption) ?_
        try simp only [List.getElem_toArray, List.getElem_cons_succ, List.getElem_cons_zero, Act.put, List.setIfInBounds_toArray, List.set_cons_zero, List.set_cons_succ]
        refine Hd.take (i := 5) (v := _) hok rfl (by kernel_rfl) (fun _ _ _ h => h) (Or.inr ⟨by rfl, rfl⟩) (by assumption) ?_
        try simp only [List.getElem_toArray, List.getElem_cons_succ, List.getElem_cons_zero, Act.put, List.setIfInBounds_toArray, List.set_cons_zero, List.set_cons_succ]
        refine Hd.take (i := 6) (v := _) hok rfl (by kernel_rfl) (fun _ _ _ h => h) (Or.inr ⟨by rfl, rfl⟩) (by assumption) ?_
        try simp only [List.getElem_toArray, List.getElem_cons_succ, List.getElem_cons_zero, Act.put, List.setIfInBounds_toArray, List.set_cons_zero, List.set_cons_succ]
        refine Hd.take (i := 7) (v := ?tv3) hok rfl (by kernel_rfl) (fun _ _ _ h => h) (Or.inl ⟨by rfl, ?ty3⟩) (by assumption) ?tr3
        case ty3 => (intro w hSw; (try dsimp only at hSw); go_simp; (try with_reducible rfl))
        try simp only [List.getElem_toArray, List.getElem_cons_succ, List.getElem_cons_zero, Act.put, List.setIfInBounds_toArray, List.set_cons_zero, List.set_cons_succ]
        refine Hd.take (i := 8) (v := ?tv4) hok rfl (by kernel_rfl) (fun _ _ _ h => h) (Or.inl ⟨by rfl, ?ty4⟩) (by assumption) ?tr4
        case ty4 => (intro w hSw; (try dsimp only at hSw); go_simp; (try with_reducible rfl))
        try simp only [List.getElem_toArray, List.getElem_cons_succ, List.getElem_cons_zero, Act.put, List.setIfInBounds_toArray, List.set_cons_zero, List.set_cons_succ]
        refine Hd.take (i := 9) (v := _) hok rfl (by kernel_rfl) (fun _ _ _ h => h) (Or.inr ⟨by rfl, rfl⟩) (by assumption) ?_
        try simp only [List.getElem_toArray, List.getElem_cons_succ, List.getElem_cons_zero, Act.put, List.setIfInBounds_toArray, List.set_cons_zero, List.set_cons_succ]
        refine Hd.take (i := 10) (v := _) hok rfl (by kernel_rfl) (fun _ _ _ h => h) (Or.inr ⟨by rfl, rfl⟩) (by assumption) ?_
        try simp only [List.getElem_toArray, List.getElem_cons_succ, List.getElem_cons_zero, Act.put, List.setIfInBounds_toArray, List.set_cons_zero, List.set_cons_succ]
        refine Hd.take (i := 11) (v := _) hok rfl (by kernel_rfl) (fun _ _ _ h => h) (Or.inr ⟨by rfl, rfl⟩) (by assumption) ?_
        try simp only [List.getElem_toArray, List.getElem_cons_succ, List.getElem_cons_zero, Act.put, List.setIfInBounds_toArray, List.set_cons_zero, List.set_cons_succ]
        refine Hd.take (i := 12) (v := _) hok rfl (by kernel_rfl) (fun _ _ _ h => h) (Or.inr ⟨by rfl, rfl⟩) (by assumption) ?_
        try simp only [List.getElem_toArray, List.getElem_cons_succ, List.getElem_cons_zero, Act.put, List.setIfInBounds_toArray, List.set_cons_zero, List.set_cons_succ]
        refine Hd.take (i := 13) (v := _) hok rfl (by kernel_rfl) (fun _ _ _ h => h) (Or.inr ⟨by rfl, rfl⟩) (by assumption) ?_
        try simp only [List.getElem_toArray, List.getElem_cons_succ, List.getElem_cons_zero, Act.put, List.setIfInBounds_toArray, List.set_cons_zero, List.set_cons_succ]
        refine Hd.take (i := 14) (v := _) hok rfl (by kernel_rfl) (fun _ _ _ h => h) (Or.inr ⟨by rfl, rfl⟩) (by assumption) ?_
        try simp only [List.getElem_toArray, List.getElem_cons_succ, List.getElem_cons_zero, Act.put, List.setIfInBounds_toArray, List.set_cons_zero, List.set_cons_succ]
        refine Hd.take (i := 15) (v := _) hok rfl (by kernel_rfl) (fun _ _ _ h => h) (Or.inr ⟨by rfl, rfl⟩) (by assumption) ?_
        try simp only [List.getElem_toArray, List.getElem_cons_succ, List.getElem_cons_zero, Act.put, List.setIfInBounds_toArray, List.set_cons_zero, List.set_cons_succ]
        refine Hd.take (i := 16) (v := _) hok rfl (by kernel_rfl) (fun _ _ _ h => h) (Or.inr ⟨by rfl, rfl⟩) (by assumption) ?_
        try simp only [List.getElem_toArray, List.getElem_cons_succ, List.getElem_cons_zero, Act.put, List.setIfInBounds_toArray, List.set_cons_zero, List.set_cons_succ]
        refine Hd.take (i := 17) (v := _) hok rfl (by kernel_rfl) (fun _ _ _ h => h) (Or.inr ⟨by rfl, rfl⟩) (by assumption) ?_
        try simp only [List.getElem_toArray, List.getElem_cons_succ, List.getElem_cons_zero, Act.put, List.setIfInBounds_toArray, List.set_cons_zero, List.set_cons_succ]
        refine Hd.take (i := 18) (v := _) hok rfl (by kernel_rfl) (fun _ _ _ h => h) (Or.inr ⟨by rfl, rfl⟩) (by assumption) ?_
        try simp only [List.getElem_toArray, List.getElem_cons_succ, List.getElem_cons_zero, Act.put, List.setIfInBounds_toArray, List.set_cons_zero, List.set_cons_succ]
        refine Hd.take (i := 19) (v := _) hok rfl (by kernel_rfl) (fun _ _ _ h => h) (Or.inr ⟨by rfl, rfl⟩) (by assumption) ?_
        try simp only [List.getElem_toArray, List.getElem_cons_succ, List.getElem_cons_zero, Act.put, List.setIfInBounds_toArray, List.set_cons_zero, List.set_cons_succ]
        refine Hd.take (i := 20) (v := _) hok rfl (by kernel_rfl) (fun _ _ _ h => h) (Or.inr ⟨by rfl, rfl⟩) (by assumption) ?_
        try simp only [List.getElem_toArray, List.getElem_cons_succ, List.getElem_cons_zero, Act.put, List.setIfInBounds_toArray, List.set_cons_zero, List.set_cons_succ]
        refine Hd.take (i := 21) (v := _) hok rfl (by kernel_rfl) (fun _ _ _ h => h) (Or.inr ⟨by rfl, rfl⟩) (by assumption) ?_
        try simp only [List.getElem_toArray, List.getElem_cons_succ, List.getElem_cons_zero, Act.put, List.setIfInBounds_toArray, List.set_cons_zero, List.set_cons_succ]
        refine Hd.take (i := 22) (v := _) hok rfl (by kernel_rfl) (fun _ _ _ h => h) (Or.inr ⟨by rfl, rfl⟩) (by assumption) ?_
        try simp only [List.getElem_toArray, List.getElem_cons_succ, List.getElem_cons_zero, Act.put, List.setIfInBounds_toArray, List.set_cons_zero, List.set_cons_succ]
        refine Hd.done (by kernel_rfl) ?_
        simp only [List.drop_succ_cons, List.drop_zero]
        clear hok hbL hbB hzd hcall
        go_wp2_with fail
        go_ret
        first | exact ⟨rfl, hbF⟩ | (rw [← hMB]; exact ⟨rfl, hbF⟩)
      | false =>
      replace htw := Lib.hid (htw.out rfl)
      rcases Nat.eq_zero_or_pos j with rfl | hjp
      · clear hprev
        refine wp_region_hd (fun w' => w'.cell? ⟨Lb, 0, none⟩ = some (.string x.name) ∧ w'.cell? ⟨Lb, 1, none⟩ = some (.int .u64 x.validity) ∧ w'.cell? ⟨Lb, 2, none⟩ = some (.int .u64 x.next) ∧ w'.cell? ⟨Lb, 3, none⟩ = some (.int .u64 x.high) ∧ w'.cell? ⟨Lb, 4, none⟩ = some (.slice x.a x.rows.length x.c) ∧ w'.cell? ⟨MB, 0, none⟩ = some (.slice (some ⟨b, bo, none⟩) bs.length cb) ∧ w'.cell? ⟨MB, 1, none⟩ = some (.int .u64 m.nv)) 23 1 (by kernel_rfl) rfl ⟨by kernel_rfl, by kernel_rfl, by kernel_rfl, by decide⟩ ⟨box_cell hbL 0, box_cell hbL 1, box_cell hbL 2, box_cell hbL 3, box_cell hbL 4, box_cell hbB 0, box_cell hbB 1⟩ (fun hok hS0 => ?_)
        generalize w7.drew = Wd at *
        refine Hd.take (i := 0) (v := ?tv5) hok rfl (by kernel_rfl) (fun _ _ _ h => h) (Or.inl ⟨by rfl, ?ty5⟩) (by assumption) ?tr5
        case ty5 => (intro w hSw; (try dsimp only at hSw); go_simp; (try with_reducible rfl))
        try simp only [List.getElem_toArray, List.getElem_cons_succ, List.getElem_cons_zero, Act.put, List.setIfInBounds_toArray, List.set_cons_zero, List.set_cons_succ]
        refine Hd.take (i := 1) (v := ?tv6) hok rfl (by kernel_rfl) (fun _ _ _ h => h) (Or.inl ⟨by rfl, ?ty6⟩) (by assumption) ?tr6
        case ty6 => (intro w hSw; (try dsimp only at hSw); go_simp; (try with_reducible rfl))
        try simp only [List.getElem_toArray, List.getElem_cons_succ, List.getElem_cons_zero, Act.put, List.setIfInBounds_toArray, List.set_cons_zero, List.set_cons_succ]
        refine Hd.take (i := 2) (v := ?tv7) hok rfl (by kernel_rfl) (fun _ _ _ h => h) (Or.inl ⟨by rfl, ?ty7⟩) (by assumption) ?tr7
        case ty7 => (intro w hSw; (try dsimp only at hSw); go_simp; (try with_reducible rfl))
        try simp only [List.getElem_toArray, List.getElem_cons_succ, List.getElem_cons_zero, Act.put, List.setIfInBounds_toArray, List.set_cons_zero, List.set_cons_succ]
        refine Hd.take (i := 3) (v := ?tv8) hok rfl (by kernel_rfl) (fun _ _ _ h => h) (Or.inl ⟨by rfl, ?ty8⟩) (by assumption) ?tr8
        case ty8 => (intro w hSw; (try dsimp only at hSw); go_simp; (try with_reducible rfl))
        try simp only [List.getElem_toArray, List.getElem_cons_succ, List.getElem_cons_zero, Act.put, List.setIfInBounds_toArray, List.set_cons_zero, List.set_cons_succ]
        refine Hd.take (i := 4) (v := ?tv9) hok rfl (by kernel_rfl) (fun _ _ _ h => h) (Or.inl ⟨by rfl, ?ty9⟩) (by assumption) ?tr9
        case ty9 => (intro w hSw; (try dsimp only at hSw); go_simp; (try with_reducible rfl))
        try simp only [List.getElem_toArray, List.getElem_cons_succ, List.getElem_cons_zero, Act.put, List.setIfInBounds_toArray, List.set_cons_zero, List.set_cons_succ]
        refine Hd.one (i := 5) rfl (by kernel_rfl) (fun K hK => ?_)
        go_simp
        refine (hcall.out _ hbd).mono ?_
        rintro e w8 ⟨B, rfl, hB, hb8⟩
        dsimp only
        have hz8 := hzd.below hb8.out
        have hbd8 := hbd.trans (hb8.out.mono (by first | exact hbd.size | (rw [← hLbE]; exact hbd.size)))
        clear hbL hbB
        obtain ⟨hbL, -⟩ := hz8.box 0 rfl
        obtain ⟨hbB, -⟩ := hz8.box 1 rfl
        have hS1 : w8.cell? ⟨Lb, 0, none⟩ = some (.string x.name) ∧ w8.cell? ⟨Lb, 1, none⟩ = some (.int .u64 x.validity) ∧ w8.cell? ⟨Lb, 2, none⟩ = some (.int .u64 x.next) ∧ w8.cell? ⟨Lb, 3, none⟩ = some (.int .u64 x.high) ∧ w8.cell? ⟨Lb, 4, none⟩ = some (.slice x.a x.rows.length x.c) ∧ w8.cell? ⟨MB, 0, none⟩ = some (.slice (some ⟨b, bo, none⟩) bs.length cb) ∧ w8.cell? ⟨MB, 1, none⟩ = some (.int .u64 m.nv) := ⟨box_cell hbL 0, box_cell hbL 1, box_cell hbL 2, box_cell hbL 3, box_cell hbL 4, box_cell hbB 0, box_cell hbB 1⟩
        refine hK _ _ hS1 ?_
        clear hK K hS0
        try simp only [List.getElem_toArray, List.getElem_cons_succ, List.getElem_cons_zero, Act.put, List.setIfInBounds_toArray, List.set_cons_zero, List.set_cons_succ]
        have hzF := Lib.hid (hz8.sub (L' := [boxT MB [.slice (some ⟨b, bo, none⟩) bs.length cb, .int .u64 m.nv, .slice ah m.homes.length ch, .slice as_ m.seats.length cs, .int .u64 m.ns, .int .u64 m.sweeps].toArray 27]) (List.Sublist.cons _ (List.Sublist.refl _)))
        have hbF := Lib.hid hz8.bel
        cases B with
        | false =>
          refine Hd.take (i := 6) (v := ?tv10) hok rfl (by kernel_rfl) (fun _ _ _ h => h) (Or.inl ⟨by rfl, ?ty10⟩) (by assumption) ?tr10
          case ty10 => (intro w hSw; (try dsimp only at hSw); go_simp; (try with_reducible rfl))
          try simp only [List.getElem_toArray, List.getElem_cons_succ, List.getElem_cons_zero, Act.put, List.setIfInBounds_toArray, List.set_cons_zero, List.set_cons_succ]
          refine Hd.take (i := 7) (v := ?tv11) hok rfl (by kernel_rfl) (fun _ _ _ h => h) (Or.inl ⟨by rfl, ?ty11⟩) (by assumption) ?tr11
          case ty11 => (intro w hSw; (try dsimp only at hSw); go_simp; (try with_reducible rfl))
          try simp only [List.getElem_toArray, List.getElem_cons_succ, List.getElem_cons_zero, Act.put, List.setIfInBounds_toArray, List.set_cons_zero, List.set_cons_succ]
          refine Hd.take (i := 8) (v := ?tv12) hok rfl (by kernel_rfl) (fun _ _ _ h => h) (Or.inl ⟨by rfl, ?ty12⟩) (by assumption) ?tr12
          case ty12 => (intro w hSw; (try dsimp only at hSw); go_simp; (try with_reducible rfl))
          try simp only [List.getElem_toArray, List.getElem_cons_succ, List.getElem_cons_zero, Act.put, List.setIfInBounds_toArray, List.set_cons_zero, List.set_cons_succ]
          refine Hd.take (i := 9) (v := _) hok rfl (by kernel_rfl) (fun _ _ _ h => h) (Or.inr ⟨by rfl, rfl⟩) (by assumption) ?_
          try simp only [List.getElem_toArray, List.getElem_cons_succ, List.getElem_cons_zero, Act.put, List.setIfInBounds_toArray, List.set_cons_zero, List.set_cons_succ]
          refine Hd.take (i := 10) (v := _) hok rfl (by kernel_rfl) (fun _ _ _ h => h) (Or.inr ⟨by rfl, rfl⟩) (by assumption) ?_
          try simp only [List.getElem_toArray, List.getElem_cons_succ, List.getElem_cons_zero, Act.put, List.setIfInBounds_toArray, List.set_cons_zero, List.set_cons_succ]
          refine Hd.take (i := 11) (v := _) hok rfl (by kernel_rfl) (fun _ _ _ h => h) (Or.inr ⟨by rfl, rfl⟩) (by assumption) ?_
          try simp only [List.getElem_toArray, List.getElem_cons_succ, List.getElem_cons_zero, Act.put, List.setIfInBounds_toArray, List.set_cons_zero, List.set_cons_succ]
          refine Hd.take (i := 12) (v := _) hok rfl (by kernel_rfl) (fun _ _ _ h => h) (Or.inr ⟨by rfl, rfl⟩) (by assumption) ?_
          try simp only [List.getElem_toArray, List.getElem_cons_succ, List.getElem_cons_zero, Act.put, List.setIfInBounds_toArray, List.set_cons_zero, List.set_cons_succ]
          refine Hd.take (i := 13) (v := _) hok rfl (by kernel_rfl) (fun _ _ _ h => h) (Or.inr ⟨by rfl, rfl⟩) (by assumption) ?_
          try simp only [List.getElem_toArray, List.getElem_cons_succ, List.getElem_cons_zero, Act.put, List.setIfInBounds_toArray, List.set_cons_zero, List.set_cons_succ]
          refine Hd.take (i := 14) (v := _) hok rfl (by kernel_rfl) (fun _ _ _ h => h) (Or.inr ⟨by rfl, rfl⟩) (by assumption) ?_
          try simp only [List.getElem_toArray, List.getElem_cons_succ, List.getElem_cons_zero, Act.put, List.setIfInBounds_toArray, List.set_cons_zero, List.set_cons_succ]
          refine Hd.take (i := 15) (v := _) hok rfl (by kernel_rfl) (fun _ _ _ h => h) (Or.inr ⟨by rfl, rfl⟩) (by assumption) ?_
          try simp only [List.getElem_toArray, List.getElem_cons_succ, List.getElem_cons_zero, Act.put, List.setIfInBounds_toArray, List.set_cons_zero, List.set_cons_succ]
          refine Hd.take (i := 16) (v := _) hok rfl (by kernel_rfl) (fun _ _ _ h => h) (Or.inr ⟨by rfl, rfl⟩) (by assumption) ?_
          try simp only [List.getElem_toArray, List.getElem_cons_succ, List.getElem_cons_zero, Act.put, List.setIfInBounds_toArray, List.set_cons_zero, List.set_cons_succ]
          refine Hd.take (i := 17) (v := _) hok rfl (by kernel_rfl) (fun _ _ _ h => h) (Or.inr ⟨by rfl, rfl⟩) (by assumption) ?_
          try simp only [List.getElem_toArray, List.getElem_cons_succ, List.getElem_cons_zero, Act.put, List.setIfInBounds_toArray, List.set_cons_zero, List.set_cons_succ]
          refine Hd.take (i := 18) (v := _) hok rfl (by kernel_rfl) (fun _ _ _ h => h) (Or.inr ⟨by rfl, rfl⟩) (by assumption) ?_
          try simp only [List.getElem_toArray, List.getElem_cons_succ, List.getElem_cons_zero, Act.put, List.setIfInBounds_toArray, List.set_cons_zero, List.set_cons_succ]
          refine Hd.take (i := 19) (v := _) hok rfl (by kernel_rfl) (fun _ _ _ h => h) (Or.inr ⟨by rfl, rfl⟩) (by assumption) ?_
          try simp only [List.getElem_toArray, List.getElem_cons_succ, List.getElem_cons_zero, Act.put, List.setIfInBounds_toArray, List.set_cons_zero, List.set_cons_succ]
          refine Hd.take (i := 20) (v := _) hok rfl (by kernel_rfl) (fun _ _ _ h => h) (Or.inr ⟨by rfl, rfl⟩) (by assumption) ?_
          try simp only [List.getElem_toArray, List.getElem_cons_succ, List.getElem_cons_zero, Act.put, List.setIfInBounds_toArray, List.set_cons_zero, List.set_cons_succ]
          refine Hd.take (i := 21) (v := _) hok rfl (by kernel_rfl) (fun _ _ _ h => h) (Or.inr ⟨by rfl, rfl⟩) (by assumption) ?_
          try simp only [List.getElem_toArray, List.getElem_cons_succ, List.getElem_cons_zero, Act.put, List.setIfInBounds_toArray, List.set_cons_zero, List.set_cons_succ]
          refine Hd.take (i := 22) (v := _) hok rfl (by kernel_rfl) (fun _ _ _ h => h) (Or.inr ⟨by rfl, rfl⟩) (by assumption) ?_
          try simp only [List.getElem_toArray, List.getElem_cons_succ, List.getElem_cons_zero, Act.put, List.setIfInBounds_toArray, List.set_cons_zero, List.set_cons_succ]
          refine Hd.done (by kernel_rfl) ?_
          simp only [List.drop_succ_cons, List.drop_zero]
          clear hok hbL hbB hzd hz8 hcall hb8 hS1 hzF
          go_wp2_with fail
          go_ret
          first | exact ⟨rfl, hbF⟩ | (rw [← hMB]; exact ⟨rfl, hbF⟩)
        | true =>
          have hP := hB.out.1 rfl
          have hup2 := Lib.hid (hst.out hP (fun h => absurd h (by omega)) htw.out)
          refine Hd.take (i := 6) (v := ?tv13) hok rfl (by kernel_rfl) (fun _ _ _ h => h) (Or.inl ⟨by rfl, ?ty13⟩) (by assumption) ?tr13
          case ty13 => (intro w hSw; (try dsimp only at hSw); go_simp; (try with_reducible rfl))
          try simp only [List.getElem_toArray, List.getElem_cons_succ, List.getElem_cons_zero, Act.put, List.setIfInBounds_toArray, List.set_cons_zero, List.set_cons_succ]
          refine Hd.take (i := 7) (v := ?tv14) hok rfl (by kernel_rfl) (fun _ _ _ h => h) (Or.inl ⟨by rfl, ?ty14⟩) (by assumption) ?tr14
          case ty14 => (intro w hSw; (try dsimp only at hSw); go_simp; (try with_reducible rfl))
          try simp only [List.getElem_toArray, List.getElem_cons_succ, List.getElem_cons_zero, Act.put, List.setIfInBounds_toArray, List.set_cons_zero, List.set_cons_succ]
          refine Hd.take (i := 8) (v := ?tv15) hok rfl (by kernel_rfl) (fun _ _ _ h => h) (Or.inl ⟨by rfl, ?ty15⟩) (by assumption) ?tr15
          case ty15 => (intro w hSw; (try dsimp only at hSw); go_simp; (try with_reducible rfl))
          try simp only [List.getElem_toArray, List.getElem_cons_succ, List.getElem_cons_zero, Act.put, List.setIfInBounds_toArray, List.set_cons_zero, List.set_cons_succ]
          refine Hd.take (i := 9) (v := ?tv16) hok rfl (by kernel_rfl) (fun _ _ _ h => h) (Or.inl ⟨by rfl, ?ty16⟩) (by assumption) ?tr16
          case ty16 => (intro w hSw; (try dsimp only at hSw); go_simp; (try with_reducible rfl))
          try simp only [List.getElem_toArray, List.getElem_cons_succ, List.getElem_cons_zero, Act.put, List.setIfInBounds_toArray, List.set_cons_zero, List.set_cons_succ]
          refine Hd.take (i := 10) (v := ?tv17) hok rfl (by kernel_rfl) (fun _ _ _ h => h) (Or.inl ⟨by rfl, ?ty17⟩) (by assumption) ?tr17
          case ty17 => (intro w hSw; (try dsimp only at hSw); go_simp; (try with_reducible rfl))
          try simp only [List.getElem_toArray, List.getElem_cons_succ, List.getElem_cons_zero, Act.put, List.setIfInBounds_toArray, List.set_cons_zero, List.set_cons_succ]
          refine Hd.take (i := 11) (v := ?tv18) hok rfl (by kernel_rfl) (fun _ _ _ h => h) (Or.inl ⟨by rfl, ?ty18⟩) (by assumption) ?tr18
          case ty18 => (intro w hSw; (try dsimp only at hSw); go_simp; (try with_reducible rfl))
          try simp only [List.getElem_toArray, List.getElem_cons_succ, List.getElem_cons_zero, Act.put, List.setIfInBounds_toArray, List.set_cons_zero, List.set_cons_succ]
          refine Hd.take (i := 12) (v := _) hok rfl (by kernel_rfl) (fun _ _ _ h => h) (Or.inr ⟨by rfl, rfl⟩) (by assumption) ?_
          try simp only [List.getElem_toArray, List.getElem_cons_succ, List.getElem_cons_zero, Act.put, List.setIfInBounds_toArray, List.set_cons_zero, List.set_cons_succ]
          refine Hd.take (i := 13) (v := _) hok rfl (by kernel_rfl) (fun _ _ _ h => h) (Or.inr ⟨by rfl, rfl⟩) (by assumption) ?_
          try simp only [List.getElem_toArray, List.getElem_cons_succ, List.getElem_cons_zero, Act.put, List.setIfInBounds_toArray, List.set_cons_zero, List.set_cons_succ]
          refine Hd.take (i := 14) (v := _) hok rfl (by kernel_rfl) (fun _ _ _ h => h) (Or.inr ⟨by rfl, rfl⟩) (by assumption) ?_
          try simp only [List.getElem_toArray, List.getElem_cons_succ, List.getElem_cons_zero, Act.put, List.setIfInBounds_toArray, List.set_cons_zero, List.set_cons_succ]
          refine Hd.take (i := 15) (v := _) hok rfl (by kernel_rfl) (fun _ _ _ h => h) (Or.inr ⟨by rfl, rfl⟩) (by assumption) ?_
          try simp only [List.getElem_toArray, List.getElem_cons_succ, List.getElem_cons_zero, Act.put, List.setIfInBounds_toArray, List.set_cons_zero, List.set_cons_succ]
          refine Hd.take (i := 16) (v := _) hok rfl (by kernel_rfl) (fun _ _ _ h => h) (Or.inr ⟨by rfl, rfl⟩) (by assumption) ?_
          try simp only [List.getElem_toArray, List.getElem_cons_succ, List.getElem_cons_zero, Act.put, List.setIfInBounds_toArray, List.set_cons_zero, List.set_cons_succ]
          refine Hd.take (i := 17) (v := _) hok rfl (by kernel_rfl) (fun _ _ _ h => h) (Or.inr ⟨by rfl, rfl⟩) (by assumption) ?_
          try simp only [List.getElem_toArray, List.getElem_cons_succ, List.getElem_cons_zero, Act.put, List.setIfInBounds_toArray, List.set_cons_zero, List.set_cons_succ]
          refine Hd.take (i := 18) (v := _) hok rfl (by kernel_rfl) (fun _ _ _ h => h) (Or.inr ⟨by rfl, rfl⟩) (by assumption) ?_
          try simp only [List.getElem_toArray, List.getElem_cons_succ, List.getElem_cons_zero, Act.put, List.setIfInBounds_toArray, List.set_cons_zero, List.set_cons_succ]
          refine Hd.take (i := 19) (v := _) hok rfl (by kernel_rfl) (fun _ _ _ h => h) (Or.inr ⟨by rfl, rfl⟩) (by assumption) ?_
          try simp only [List.getElem_toArray, List.getElem_cons_succ, List.getElem_cons_zero, Act.put, List.setIfInBounds_toArray, List.set_cons_zero, List.set_cons_succ]
          refine Hd.take (i := 20) (v := _) hok rfl (by kernel_rfl) (fun _ _ _ h => h) (Or.inr ⟨by rfl, rfl⟩) (by assumption) ?_
          try simp only [List.getElem_toArray, List.getElem_cons_succ, List.getElem_cons_zero, Act.put, List.setIfInBounds_toArray, List.set_cons_zero, List.set_cons_succ]
          refine Hd.take (i := 21) (v := _) hok rfl (by kernel_rfl) (fun _ _ _ h => h) (Or.inr ⟨by rfl, rfl⟩) (by assumption) ?_
          try simp only [List.getElem_toArray, List.getElem_cons_succ, List.getElem_cons_zero, Act.put, List.setIfInBounds_toArray, List.set_cons_zero, List.set_cons_succ]
          refine Hd.take (i := 22) (v := ?tv19) hok rfl (by kernel_rfl) (fun _ _ _ h => h) (Or.inl ⟨by rfl, ?ty19⟩) (by assumption) ?tr19
          case ty19 => (intro w hSw; (try dsimp only at hSw); go_simp; (try with_reducible rfl))
          try simp only [List.getElem_toArray, List.getElem_cons_succ, List.getElem_cons_zero, Act.put, List.setIfInBounds_toArray, List.set_cons_zero, List.set_cons_succ]
          refine Hd.done (by kernel_rfl) ?_
          simp only [List.drop_succ_cons, List.drop_zero]
          clear hok hbL hbB hzd hz8 hcall hb8 hS1 hbF hP hB hst htw
          go_wp2_with fail
          go_roundw
          case rel => exact ⟨0 + 1, ib || tst, by go_num, rfl, by omega, hib2, hup2, hzF⟩
          case measure => simp [intOf] <;> omega
      · obtain ⟨u, hpc, hpu⟩ := hprev.out hjp
        have hp1 : (0 : Int) < (j : Int) := by omega
        have hp2 : (0 : Int) ≤ (j : Int) - 1 := by omega
        have hp3 : (j : Int) - 1 < (bs.length : Int) := by omega
        have hp4 : IntKind.i64.wrap ((j : Int) - 1) = (j : Int) - 1 := IntWalk.i64_in _ (by omega)
        have hp5 : ((j : Int) - 1).toNat = j - 1 := by omega
        have hp6 : (1 : Int) ≤ (j : Int) := by omega
        clear hprev
        refine wp_region_hd (fun w' => w'.cell? ⟨Lb, 0, none⟩ = some (.string x.name) ∧ w'.cell? ⟨Lb, 1, none⟩ = some (.int .u64 x.validity) ∧ w'.cell? ⟨Lb, 2, none⟩ = some (.int .u64 x.next) ∧ w'.cell? ⟨Lb, 3, none⟩ = some (.int .u64 x.high) ∧ w'.cell? ⟨Lb, 4, none⟩ = some (.slice x.a x.rows.length x.c) ∧ w'.cell? ⟨MB, 0, none⟩ = some (.slice (some ⟨b, bo, none⟩) bs.length cb) ∧ w'.cell? ⟨MB, 1, none⟩ = some (.int .u64 m.nv) ∧ w'.cell? ⟨b, bo + (j - 1) * 5, none⟩ = some (.string u)) 23 1 (by kernel_rfl) rfl ⟨by kernel_rfl, by kernel_rfl, by kernel_rfl, by decide⟩ ⟨box_cell hbL 0, box_cell hbL 1, box_cell hbL 2, box_cell hbL 3, box_cell hbL 4, box_cell hbB 0, box_cell hbB 1, hpc _ hbd⟩ (fun hok hS0 => ?_)
        generalize w7.drew = Wd at *
        refine Hd.take (i := 0) (v := ?tv20) hok rfl (by kernel_rfl) (fun _ _ _ h => h) (Or.inl ⟨by rfl, ?ty20⟩) (by assumption) ?tr20
        case ty20 => (intro w hSw; (try dsimp only at hSw); go_simp; (try with_reducible rfl))
        try simp only [List.getElem_toArray, List.getElem_cons_succ, List.getElem_cons_zero, Act.put, List.setIfInBounds_toArray, List.set_cons_zero, List.set_cons_succ]
        refine Hd.take (i := 1) (v := ?tv21) hok rfl (by kernel_rfl) (fun _ _ _ h => h) (Or.inl ⟨by rfl, ?ty21⟩) (by assumption) ?tr21
        case ty21 => (intro w hSw; (try dsimp only at hSw); go_simp; (try with_reducible rfl))
        try simp only [List.getElem_toArray, List.getElem_cons_succ, List.getElem_cons_zero, Act.put, List.setIfInBounds_toArray, List.set_cons_zero, List.set_cons_succ]
        refine Hd.take (i := 2) (v := ?tv22) hok rfl (by kernel_rfl) (fun _ _ _ h => h) (Or.inl ⟨by rfl, ?ty22⟩) (by assumption) ?tr22
        case ty22 => (intro w hSw; (try dsimp only at hSw); go_simp; (try with_reducible rfl))
        try simp only [List.getElem_toArray, List.getElem_cons_succ, List.getElem_cons_zero, Act.put, List.setIfInBounds_toArray, List.set_cons_zero, List.set_cons_succ]
        refine Hd.take (i := 3) (v := ?tv23) hok rfl (by kernel_rfl) (fun _ _ _ h => h) (Or.inl ⟨by rfl, ?ty23⟩) (by assumption) ?tr23
        case ty23 => (intro w hSw; (try dsimp only at hSw); go_simp; (try with_reducible rfl))
        try simp only [List.getElem_toArray, List.getElem_cons_succ, List.getElem_cons_zero, Act.put, List.setIfInBounds_toArray, List.set_cons_zero, List.set_cons_succ]
        refine Hd.take (i := 4) (v := ?tv24) hok rfl (by kernel_rfl) (fun _ _ _ h => h) (Or.inl ⟨by rfl, ?ty24⟩) (by assumption) ?tr24
        case ty24 => (intro w hSw; (try dsimp only at hSw); go_simp; (try with_reducible rfl))
        try simp only [List.getElem_toArray, List.getElem_cons_succ, List.getElem_cons_zero, Act.put, List.setIfInBounds_toArray, List.set_cons_zero, List.set_cons_succ]
        refine Hd.one (i := 5) rfl (by kernel_rfl) (fun K hK => ?_)
        go_simp
        refine (hcall.out _ hbd).mono ?_
        rintro e w8 ⟨B, rfl, hB, hb8⟩
        dsimp only
        have hz8 := hzd.below hb8.out
        have hbd8 := hbd.trans (hb8.out.mono (by first | exact hbd.size | (rw [← hLbE]; exact hbd.size)))
        clear hbL hbB
        obtain ⟨hbL, -⟩ := hz8.box 0 rfl
        obtain ⟨hbB, -⟩ := hz8.box 1 rfl
        have hS1 : w8.cell? ⟨Lb, 0, none⟩ = some (.string x.name) ∧ w8.cell? ⟨Lb, 1, none⟩ = some (.int .u64 x.validity) ∧ w8.cell? ⟨Lb, 2, none⟩ = some (.int .u64 x.next) ∧ w8.cell? ⟨Lb, 3, none⟩ = some (.int .u64 x.high) ∧ w8.cell? ⟨Lb, 4, none⟩ = some (.slice x.a x.rows.length x.c) ∧ w8.cell? ⟨MB, 0, none⟩ = some (.slice (some ⟨b, bo, none⟩) bs.length cb) ∧ w8.cell? ⟨MB, 1, none⟩ = some (.int .u64 m.nv) ∧ w8.cell? ⟨b, bo + (j - 1) * 5, none⟩ = some (.string u) := ⟨box_cell hbL 0, box_cell hbL 1, box_cell hbL 2, box_cell hbL 3, box_cell hbL 4, box_cell hbB 0, box_cell hbB 1, hpc _ hbd8⟩
        refine hK _ _ hS1 ?_
        clear hK K hS0
        try simp only [List.getElem_toArray, List.getElem_cons_succ, List.getElem_cons_zero, Act.put, List.setIfInBounds_toArray, List.set_cons_zero, List.set_cons_succ]
        have hzF := Lib.hid (hz8.sub (L' := [boxT MB [.slice (some ⟨b, bo, none⟩) bs.length cb, .int .u64 m.nv, .slice ah m.homes.length ch, .slice as_ m.seats.length cs, .int .u64 m.ns, .int .u64 m.sweeps].toArray 27]) (List.Sublist.cons _ (List.Sublist.refl _)))
        have hbF := Lib.hid hz8.bel
        cases B with
        | false =>
          refine Hd.take (i := 6) (v := ?tv25) hok rfl (by kernel_rfl) (fun _ _ _ h => h) (Or.inl ⟨by rfl, ?ty25⟩) (by assumption) ?tr25
          case ty25 => (intro w hSw; (try dsimp only at hSw); go_simp; (try with_reducible rfl))
          try simp only [List.getElem_toArray, List.getElem_cons_succ, List.getElem_cons_zero, Act.put, List.setIfInBounds_toArray, List.set_cons_zero, List.set_cons_succ]
          refine Hd.take (i := 7) (v := ?tv26) hok rfl (by kernel_rfl) (fun _ _ _ h => h) (Or.inl ⟨by rfl, ?ty26⟩) (by assumption) ?tr26
          case ty26 => (intro w hSw; (try dsimp only at hSw); go_simp; (try with_reducible rfl))
          try simp only [List.getElem_toArray, List.getElem_cons_succ, List.getElem_cons_zero, Act.put, List.setIfInBounds_toArray, List.set_cons_zero, List.set_cons_succ]
          refine Hd.take (i := 8) (v := ?tv27) hok rfl (by kernel_rfl) (fun _ _ _ h => h) (Or.inl ⟨by rfl, ?ty27⟩) (by assumption) ?tr27
          case ty27 => (intro w hSw; (try dsimp only at hSw); go_simp; (try with_reducible rfl))
          try simp only [List.getElem_toArray, List.getElem_cons_succ, List.getElem_cons_zero, Act.put, List.setIfInBounds_toArray, List.set_cons_zero, List.set_cons_succ]
          refine Hd.take (i := 9) (v := _) hok rfl (by kernel_rfl) (fun _ _ _ h => h) (Or.inr ⟨by rfl, rfl⟩) (by assumption) ?_
          try simp only [List.getElem_toArray, List.getElem_cons_succ, List.getElem_cons_zero, Act.put, List.setIfInBounds_toArray, List.set_cons_zero, List.set_cons_succ]
          refine Hd.take (i := 10) (v := _) hok rfl (by kernel_rfl) (fun _ _ _ h => h) (Or.inr ⟨by rfl, rfl⟩) (by assumption) ?_
          try simp only [List.getElem_toArray, List.getElem_cons_succ, List.getElem_cons_zero, Act.put, List.setIfInBounds_toArray, List.set_cons_zero, List.set_cons_succ]
          refine Hd.take (i := 11) (v := _) hok rfl (by kernel_rfl) (fun _ _ _ h => h) (Or.inr ⟨by rfl, rfl⟩) (by assumption) ?_
          try simp only [List.getElem_toArray, List.getElem_cons_succ, List.getElem_cons_zero, Act.put, List.setIfInBounds_toArray, List.set_cons_zero, List.set_cons_succ]
          refine Hd.take (i := 12) (v := _) hok rfl (by kernel_rfl) (fun _ _ _ h => h) (Or.inr ⟨by rfl, rfl⟩) (by assumption) ?_
          try simp only [List.getElem_toArray, List.getElem_cons_succ, List.getElem_cons_zero, Act.put, List.setIfInBounds_toArray, List.set_cons_zero, List.set_cons_succ]
          refine Hd.take (i := 13) (v := _) hok rfl (by kernel_rfl) (fun _ _ _ h => h) (Or.inr ⟨by rfl, rfl⟩) (by assumption) ?_
          try simp only [List.getElem_toArray, List.getElem_cons_succ, List.getElem_cons_zero, Act.put, List.setIfInBounds_toArray, List.set_cons_zero, List.set_cons_succ]
          refine Hd.take (i := 14) (v := _) hok rfl (by kernel_rfl) (fun _ _ _ h => h) (Or.inr ⟨by rfl, rfl⟩) (by assumption) ?_
          try simp only [List.getElem_toArray, List.getElem_cons_succ, List.getElem_cons_zero, Act.put, List.setIfInBounds_toArray, List.set_cons_zero, List.set_cons_succ]
          refine Hd.take (i := 15) (v := _) hok rfl (by kernel_rfl) (fun _ _ _ h => h) (Or.inr ⟨by rfl, rfl⟩) (by assumption) ?_
          try simp only [List.getElem_toArray, List.getElem_cons_succ, List.getElem_cons_zero, Act.put, List.setIfInBounds_toArray, List.set_cons_zero, List.set_cons_succ]
          refine Hd.take (i := 16) (v := _) hok rfl (by kernel_rfl) (fun _ _ _ h => h) (Or.inr ⟨by rfl, rfl⟩) (by assumption) ?_
          try simp only [List.getElem_toArray, List.getElem_cons_succ, List.getElem_cons_zero, Act.put, List.setIfInBounds_toArray, List.set_cons_zero, List.set_cons_succ]
          refine Hd.take (i := 17) (v := _) hok rfl (by kernel_rfl) (fun _ _ _ h => h) (Or.inr ⟨by rfl, rfl⟩) (by assumption) ?_
          try simp only [List.getElem_toArray, List.getElem_cons_succ, List.getElem_cons_zero, Act.put, List.setIfInBounds_toArray, List.set_cons_zero, List.set_cons_succ]
          refine Hd.take (i := 18) (v := _) hok rfl (by kernel_rfl) (fun _ _ _ h => h) (Or.inr ⟨by rfl, rfl⟩) (by assumption) ?_
          try simp only [List.getElem_toArray, List.getElem_cons_succ, List.getElem_cons_zero, Act.put, List.setIfInBounds_toArray, List.set_cons_zero, List.set_cons_succ]
          refine Hd.take (i := 19) (v := _) hok rfl (by kernel_rfl) (fun _ _ _ h => h) (Or.inr ⟨by rfl, rfl⟩) (by assumption) ?_
          try simp only [List.getElem_toArray, List.getElem_cons_succ, List.getElem_cons_zero, Act.put, List.setIfInBounds_toArray, List.set_cons_zero, List.set_cons_succ]
          refine Hd.take (i := 20) (v := _) hok rfl (by kernel_rfl) (fun _ _ _ h => h) (Or.inr ⟨by rfl, rfl⟩) (by assumption) ?_
          try simp only [List.getElem_toArray, List.getElem_cons_succ, List.getElem_cons_zero, Act.put, List.setIfInBounds_toArray, List.set_cons_zero, List.set_cons_succ]
          refine Hd.take (i := 21) (v := _) hok rfl (by kernel_rfl) (fun _ _ _ h => h) (Or.inr ⟨by rfl, rfl⟩) (by assumption) ?_
          try simp only [List.getElem_toArray, List.getElem_cons_succ, List.getElem_cons_zero, Act.put, List.setIfInBounds_toArray, List.set_cons_zero, List.set_cons_succ]
          refine Hd.take (i := 22) (v := _) hok rfl (by kernel_rfl) (fun _ _ _ h => h) (Or.inr ⟨by rfl, rfl⟩) (by assumption) ?_
          try simp only [List.getElem_toArray, List.getElem_cons_succ, List.getElem_cons_zero, Act.put, List.setIfInBounds_toArray, List.set_cons_zero, List.set_cons_succ]
          refine Hd.done (by kernel_rfl) ?_
          simp only [List.drop_succ_cons, List.drop_zero]
          clear hok hbL hbB hzd hz8 hcall hb8 hS1 hzF
          go_wp2_with fail
          go_ret
          first | exact ⟨rfl, hbF⟩ | (rw [← hMB]; exact ⟨rfl, hbF⟩)
        | true =>
          have hP := hB.out.1 rfl
          cases hlu : Op.bytesLess u.toList x.name.toList with
          | true =>
            have hup2 := Lib.hid (hst.out hP (fun _ hk => hpu.out hk hlu) htw.out)
            refine Hd.take (i := 6) (v := ?tv28) hok rfl (by kernel_rfl) (fun _ _ _ h => h) (Or.inl ⟨by rfl, ?ty28⟩) (by assumption) ?tr28
            case ty28 => (intro w hSw; (try dsimp only at hSw); go_simp; (try with_reducible rfl))
            try simp only [List.getElem_toArray, List.getElem_cons_succ, List.getElem_cons_zero, Act.put, List.setIfInBounds_toArray, List.set_cons_zero, List.set_cons_succ]
            refine Hd.take (i := 7) (v := ?tv29) hok rfl (by kernel_rfl) (fun _ _ _ h => h) (Or.inl ⟨by rfl, ?ty29⟩) (by assumption) ?tr29
            case ty29 => (intro w hSw; (try dsimp only at hSw); go_simp; (try with_reducible rfl))
            try simp only [List.getElem_toArray, List.getElem_cons_succ, List.getElem_cons_zero, Act.put, List.setIfInBounds_toArray, List.set_cons_zero, List.set_cons_succ]
            refine Hd.take (i := 8) (v := ?tv30) hok rfl (by kernel_rfl) (fun _ _ _ h => h) (Or.inl ⟨by rfl, ?ty30⟩) (by assumption) ?tr30
            case ty30 => (intro w hSw; (try dsimp only at hSw); go_simp; (try with_reducible rfl))
            try simp only [List.getElem_toArray, List.getElem_cons_succ, List.getElem_cons_zero, Act.put, List.setIfInBounds_toArray, List.set_cons_zero, List.set_cons_succ]
            refine Hd.take (i := 9) (v := ?tv31) hok rfl (by kernel_rfl) (fun _ _ _ h => h) (Or.inl ⟨by rfl, ?ty31⟩) (by assumption) ?tr31
            case ty31 => (intro w hSw; (try dsimp only at hSw); go_simp; (try with_reducible rfl))
            try simp only [List.getElem_toArray, List.getElem_cons_succ, List.getElem_cons_zero, Act.put, List.setIfInBounds_toArray, List.set_cons_zero, List.set_cons_succ]
            refine Hd.take (i := 10) (v := ?tv32) hok rfl (by kernel_rfl) (fun _ _ _ h => h) (Or.inl ⟨by rfl, ?ty32⟩) (by assumption) ?tr32
            case ty32 => (intro w hSw; (try dsimp only at hSw); go_simp; (try with_reducible rfl))
            try simp only [List.getElem_toArray, List.getElem_cons_succ, List.getElem_cons_zero, Act.put, List.setIfInBounds_toArray, List.set_cons_zero, List.set_cons_succ]
            refine Hd.take (i := 11) (v := ?tv33) hok rfl (by kernel_rfl) (fun _ _ _ h => h) (Or.inl ⟨by rfl, ?ty33⟩) (by assumption) ?tr33
            case ty33 => (intro w hSw; (try dsimp only at hSw); go_simp; (try with_reducible rfl))
            try simp only [List.getElem_toArray, List.getElem_cons_succ, List.getElem_cons_zero, Act.put, List.setIfInBounds_toArray, List.set_cons_zero, List.set_cons_succ]
            refine Hd.take (i := 12) (v := ?tv34) hok rfl (by kernel_rfl) (fun _ _ _ h => h) (Or.inl ⟨by rfl, ?ty34⟩) (by assumption) ?tr34
            case ty34 => (intro w hSw; (try dsimp only at hSw); go_simp; (try with_reducible rfl))
            try simp only [List.getElem_toArray, List.getElem_cons_succ, List.getElem_cons_zero, Act.put, List.setIfInBounds_toArray, List.set_cons_zero, List.set_cons_succ]
            refine Hd.take (i := 13) (v := ?tv35) hok rfl (by kernel_rfl) (fun _ _ _ h => h) (Or.inl ⟨by rfl, ?ty35⟩) (by assumption) ?tr35
            case ty35 => (intro w hSw; (try dsimp only at hSw); go_simp; (try with_reducible rfl))
            try simp only [List.getElem_toArray, List.getElem_cons_succ, List.getElem_cons_zero, Act.put, List.setIfInBounds_toArray, List.set_cons_zero, List.set_cons_succ]
            refine Hd.take (i := 14) (v := ?tv36) hok rfl (by kernel_rfl) (fun _ _ _ h => h) (Or.inl ⟨by rfl, ?ty36⟩) (by assumption) ?tr36
            case ty36 => (intro w hSw; (try dsimp only at hSw); go_simp; (try with_reducible rfl))
            try simp only [List.getElem_toArray, List.getElem_cons_succ, List.getElem_cons_zero, Act.put, List.setIfInBounds_toArray, List.set_cons_zero, List.set_cons_succ]
            refine Hd.take (i := 15) (v := ?tv37) hok rfl (by kernel_rfl) (fun _ _ _ h => h) (Or.inl ⟨by rfl, ?ty37⟩) (by assumption) ?tr37
            case ty37 => (intro w hSw; (try dsimp only at hSw); go_simp; (try with_reducible rfl))
            try simp only [List.getElem_toArray, List.getElem_cons_succ, List.getElem_cons_zero, Act.put, List.setIfInBounds_toArray, List.set_cons_zero, List.set_cons_succ]
            refine Hd.take (i := 16) (v := ?tv38) hok rfl (by kernel_rfl) (fun _ _ _ h => h) (Or.inl ⟨by rfl, ?ty38⟩) (by assumption) ?tr38
            case ty38 => (intro w hSw; (try dsimp only at hSw); go_simp; (try with_reducible rfl))
            try simp only [List.getElem_toArray, List.getElem_cons_succ, List.getElem_cons_zero, Act.put, List.setIfInBounds_toArray, List.set_cons_zero, List.set_cons_succ]
            refine Hd.take (i := 17) (v := ?tv39) hok rfl (by kernel_rfl) (fun _ _ _ h => h) (Or.inl ⟨by rfl, ?ty39⟩) (by assumption) ?tr39
            case ty39 => (intro w hSw; (try dsimp only at hSw); go_simp; (try with_reducible rfl))
            try simp only [List.getElem_toArray, List.getElem_cons_succ, List.getElem_cons_zero, Act.put, List.setIfInBounds_toArray, List.set_cons_zero, List.set_cons_succ]
            refine Hd.take (i := 18) (v := ?tv40) hok rfl (by kernel_rfl) (fun _ _ _ h => h) (Or.inl ⟨by rfl, ?ty40⟩) (by assumption) ?tr40
            case ty40 => (intro w hSw; (try dsimp only at hSw); go_simp; (try with_reducible rfl))
            try simp only [List.getElem_toArray, List.getElem_cons_succ, List.getElem_cons_zero, Act.put, List.setIfInBounds_toArray, List.set_cons_zero, List.set_cons_succ]
            refine Hd.take (i := 19) (v := ?tv41) hok rfl (by kernel_rfl) (fun _ _ _ h => h) (Or.inl ⟨by rfl, ?ty41⟩) (by assumption) ?tr41
            case ty41 => (intro w hSw; (try dsimp only at hSw); go_simp; (try with_reducible rfl))
            try simp only [List.getElem_toArray, List.getElem_cons_succ, List.getElem_cons_zero, Act.put, List.setIfInBounds_toArray, List.set_cons_zero, List.set_cons_succ]
            refine Hd.take (i := 20) (v := ?tv42) hok rfl (by kernel_rfl) (fun _ _ _ h => h) (Or.inl ⟨by rfl, ?ty42⟩) (by assumption) ?tr42
            case ty42 => (intro w hSw; (try dsimp only at hSw); go_simp; (try with_reducible rfl))
            try simp only [List.getElem_toArray, List.getElem_cons_succ, List.getElem_cons_zero, Act.put, List.setIfInBounds_toArray, List.set_cons_zero, List.set_cons_succ]
            refine Hd.take (i := 21) (v := ?tv43) hok rfl (by kernel_rfl) (fun _ _ _ h => h) (Or.inl ⟨by rfl, ?ty43⟩) (by assumption) ?tr43
            case ty43 => (intro w hSw; (try dsimp only at hSw); go_simp; (try with_reducible rfl))
            try simp only [List.getElem_toArray, List.getElem_cons_succ, List.getElem_cons_zero, Act.put, List.setIfInBounds_toArray, List.set_cons_zero, List.set_cons_succ]
            refine Hd.take (i := 22) (v := ?tv44) hok rfl (by kernel_rfl) (fun _ _ _ h => h) (Or.inl ⟨by rfl, ?ty44⟩) (by assumption) ?tr44
            case ty44 => (intro w hSw; (try dsimp only at hSw); go_simp; (try with_reducible rfl))
            try simp only [List.getElem_toArray, List.getElem_cons_succ, List.getElem_cons_zero, Act.put, List.setIfInBounds_toArray, List.set_cons_zero, List.set_cons_succ]
            refine Hd.done (by kernel_rfl) ?_
            simp only [List.drop_succ_cons, List.drop_zero]
            clear hok hbL hbB hzd hz8 hcall hb8 hS1 hbF hP hB hst htw hpu
            go_wp2_with fail
            go_roundw
            case rel => exact ⟨j + 1, ib || tst, by go_num, rfl, by omega, hib2, hup2, hzF⟩
            case measure => simp [intOf] <;> omega
          | false =>
            refine Hd.take (i := 6) (v := ?tv45) hok rfl (by kernel_rfl) (fun _ _ _ h => h) (Or.inl ⟨by rfl, ?ty45⟩) (by assumption) ?tr45
            case ty45 => (intro w hSw; (try dsimp only at hSw); go_simp; (try with_reducible rfl))
            try simp only [List.getElem_toArray, List.getElem_cons_succ, List.getElem_cons_zero, Act.put, List.setIfInBounds_toArray, List.set_cons_zero, List.set_cons_succ]
            refine Hd.take (i := 7) (v := ?tv46) hok rfl (by kernel_rfl) (fun _ _ _ h => h) (Or.inl ⟨by rfl, ?ty46⟩) (by assumption) ?tr46
            case ty46 => (intro w hSw; (try dsimp only at hSw); go_simp; (try with_reducible rfl))
            try simp only [List.getElem_toArray, List.getElem_cons_succ, List.getElem_cons_zero, Act.put, List.setIfInBounds_toArray, List.set_cons_zero, List.set_cons_succ]
            refine Hd.take (i := 8) (v := ?tv47) hok rfl (by kernel_rfl) (fun _ _ _ h => h) (Or.inl ⟨by rfl, ?ty47⟩) (by assumption) ?tr47
            case ty47 => (intro w hSw; (try dsimp only at hSw); go_simp; (try with_reducible rfl))
            try simp only [List.getElem_toArray, List.getElem_cons_succ, List.getElem_cons_zero, Act.put, List.setIfInBounds_toArray, List.set_cons_zero, List.set_cons_succ]
            refine Hd.take (i := 9) (v := ?tv48) hok rfl (by kernel_rfl) (fun _ _ _ h => h) (Or.inl ⟨by rfl, ?ty48⟩) (by assumption) ?tr48
            case ty48 => (intro w hSw; (try dsimp only at hSw); go_simp; (try with_reducible rfl))
            try simp only [List.getElem_toArray, List.getElem_cons_succ, List.getElem_cons_zero, Act.put, List.setIfInBounds_toArray, List.set_cons_zero, List.set_cons_succ]
            refine Hd.take (i := 10) (v := ?tv49) hok rfl (by kernel_rfl) (fun _ _ _ h => h) (Or.inl ⟨by rfl, ?ty49⟩) (by assumption) ?tr49
            case ty49 => (intro w hSw; (try dsimp only at hSw); go_simp; (try with_reducible rfl))
            try simp only [List.getElem_toArray, List.getElem_cons_succ, List.getElem_cons_zero, Act.put, List.setIfInBounds_toArray, List.set_cons_zero, List.set_cons_succ]
            refine Hd.take (i := 11) (v := ?tv50) hok rfl (by kernel_rfl) (fun _ _ _ h => h) (Or.inl ⟨by rfl, ?ty50⟩) (by assumption) ?tr50
            case ty50 => (intro w hSw; (try dsimp only at hSw); go_simp; (try with_reducible rfl))
            try simp only [List.getElem_toArray, List.getElem_cons_succ, List.getElem_cons_zero, Act.put, List.setIfInBounds_toArray, List.set_cons_zero, List.set_cons_succ]
            refine Hd.take (i := 12) (v := ?tv51) hok rfl (by kernel_rfl) (fun _ _ _ h => h) (Or.inl ⟨by rfl, ?ty51⟩) (by assumption) ?tr51
            case ty51 => (intro w hSw; (try dsimp only at hSw); go_simp; (try with_reducible rfl))
            try simp only [List.getElem_toArray, List.getElem_cons_succ, List.getElem_cons_zero, Act.put, List.setIfInBounds_toArray, List.set_cons_zero, List.set_cons_succ]
            refine Hd.take (i := 13) (v := ?tv52) hok rfl (by kernel_rfl) (fun _ _ _ h => h) (Or.inl ⟨by rfl, ?ty52⟩) (by assumption) ?tr52
            case ty52 => (intro w hSw; (try dsimp only at hSw); go_simp; (try with_reducible rfl))
            try simp only [List.getElem_toArray, List.getElem_cons_succ, List.getElem_cons_zero, Act.put, List.setIfInBounds_toArray, List.set_cons_zero, List.set_cons_succ]
            refine Hd.take (i := 14) (v := ?tv53) hok rfl (by kernel_rfl) (fun _ _ _ h => h) (Or.inl ⟨by rfl, ?ty53⟩) (by assumption) ?tr53
            case ty53 => (intro w hSw; (try dsimp only at hSw); go_simp; (try with_reducible rfl))
            try simp only [List.getElem_toArray, List.getElem_cons_succ, List.getElem_cons_zero, Act.put, List.setIfInBounds_toArray, List.set_cons_zero, List.set_cons_succ]
            refine Hd.take (i := 15) (v := ?tv54) hok rfl (by kernel_rfl) (fun _ _ _ h => h) (Or.inl ⟨by rfl, ?ty54⟩) (by assumption) ?tr54
            case ty54 => (intro w hSw; (try dsimp only at hSw); go_simp; (try with_reducible rfl))
            try simp only [List.getElem_toArray, List.getElem_cons_succ, List.getElem_cons_zero, Act.put, List.setIfInBounds_toArray, List.set_cons_zero, List.set_cons_succ]
            refine Hd.take (i := 16) (v := ?tv55) hok rfl (by kernel_rfl) (fun _ _ _ h => h) (Or.inl ⟨by rfl, ?ty55⟩) (by assumption) ?tr55
            case ty55 => (intro w hSw; (try dsimp only at hSw); go_simp; (try with_reducible rfl))
            try simp only [List.getElem_toArray, List.getElem_cons_succ, List.getElem_cons_zero, Act.put, List.setIfInBounds_toArray, List.set_cons_zero, List.set_cons_succ]
            refine Hd.take (i := 17) (v := ?tv56) hok rfl (by kernel_rfl) (fun _ _ _ h => h) (Or.inl ⟨by rfl, ?ty56⟩) (by assumption) ?tr56
            case ty56 => (intro w hSw; (try dsimp only at hSw); go_simp; (try with_reducible rfl))
            try simp only [List.getElem_toArray, List.getElem_cons_succ, List.getElem_cons_zero, Act.put, List.setIfInBounds_toArray, List.set_cons_zero, List.set_cons_succ]
            refine Hd.take (i := 18) (v := ?tv57) hok rfl (by kernel_rfl) (fun _ _ _ h => h) (Or.inl ⟨by rfl, ?ty57⟩) (by assumption) ?tr57
            case ty57 => (intro w hSw; (try dsimp only at hSw); go_simp; (try with_reducible rfl))
            try simp only [List.getElem_toArray, List.getElem_cons_succ, List.getElem_cons_zero, Act.put, List.setIfInBounds_toArray, List.set_cons_zero, List.set_cons_succ]
            refine Hd.take (i := 19) (v := ?tv58) hok rfl (by kernel_rfl) (fun _ _ _ h => h) (Or.inl ⟨by rfl, ?ty58⟩) (by assumption) ?tr58
            case ty58 => (intro w hSw; (try dsimp only at hSw); go_simp; (try with_reducible rfl))
            try simp only [List.getElem_toArray, List.getElem_cons_succ, List.getElem_cons_zero, Act.put, List.setIfInBounds_toArray, List.set_cons_zero, List.set_cons_succ]
            refine Hd.take (i := 20) (v := ?tv59) hok rfl (by kernel_rfl) (fun _ _ _ h => h) (Or.inl ⟨by rfl, ?ty59⟩) (by assumption) ?tr59
            case ty59 => (intro w hSw; (try dsimp only at hSw); go_simp; (try with_reducible rfl))
            try simp only [List.getElem_toArray, List.getElem_cons_succ, List.getElem_cons_zero, Act.put, List.setIfInBounds_toArray, List.set_cons_zero, List.set_cons_succ]
            refine Hd.take (i := 21) (v := ?tv60) hok rfl (by kernel_rfl) (fun _ _ _ h => h) (Or.inl ⟨by rfl, ?ty60⟩) (by assumption) ?tr60
            case ty60 => (intro w hSw; (try dsimp only at hSw); go_simp; (try with_reducible rfl))
            try simp only [List.getElem_toArray, List.getElem_cons_succ, List.getElem_cons_zero, Act.put, List.setIfInBounds_toArray, List.set_cons_zero, List.set_cons_succ]
            refine Hd.take (i := 22) (v := ?tv61) hok rfl (by kernel_rfl) (fun _ _ _ h => h) (Or.inl ⟨by rfl, ?ty61⟩) (by assumption) ?tr61
            case ty61 => (intro w hSw; (try dsimp only at hSw); go_simp; (try with_reducible rfl))
            try simp only [List.getElem_toArray, List.getElem_cons_succ, List.getElem_cons_zero, Act.put, List.setIfInBounds_toArray, List.set_cons_zero, List.set_cons_succ]
            refine Hd.done (by kernel_rfl) ?_
            simp only [List.drop_succ_cons, List.drop_zero]
            clear hok hbL hbB hzd hz8 hcall hb8 hS1 hzF hP hB hst htw hpu
            go_wp2_with fail
            go_ret
            first | exact ⟨rfl, hbF⟩ | (rw [← hMB]; exact ⟨rfl, hbF⟩)
    · obtain rfl : j = bs.length := by omega
      have hbF := Lib.hid hz.out.bel
      rw [hlb.out, List.take_length] at hib
      rw [hlb.out] at hup
      cases ib with
      | false =>
        clear hbB hib hup hz
        go_wp2_with fail
        go_ret
        first | exact ⟨rfl, hbF⟩ | (rw [← hMB]; exact ⟨rfl, hbF⟩)
      | true =>
      have x0 : wr.cell? ⟨MB, 0, none⟩ = some (.slice ab bs.length cb) := box_cell hbB 0
      have x1 : wr.cell? ⟨MB, 1, none⟩ = some (.int .u64 m.nv) := box_cell hbB 1
      have x2 : wr.cell? ⟨MB, 2, none⟩ = some (.slice ah m.homes.length ch) := box_cell hbB 2
      have x3 : wr.cell? ⟨MB, 3, none⟩ = some (.slice as_ m.seats.length cs) := box_cell hbB 3
      have x4 : wr.cell? ⟨MB, 4, none⟩ = some (.int .u64 m.ns) := box_cell hbB 4
      have x5 : wr.cell? ⟨MB, 5, none⟩ = some (.int .u64 m.sweeps) := box_cell hbB 5
      have hsr := Lib.hid (seatsRight_any _ (hin0.out wr hz.out.bel) (hn3.out hup.out hib.out.symm) hl5.out.1 hl5.out.2)
      clear hbB
      go_wp2_with fail
      refine hsr.out.mono ?_
      rintro e w8 ⟨B, rfl, hB, hb8⟩
      dsimp only
      cases B with
      | true => exact absurd (hn2.out hup.out hib.out.symm (hB.out.1 rfl)) id
      | false =>
        have hbF := Lib.hid (hz.out.below hb8.out).bel
        clear x0 x1 x2 x3 x4 x5 hsr hz hb8 hB hib hup
        go_wp2_with fail
        go_ret
        first | exact ⟨rfl, hbF⟩ | (rw [← hMB]; exact ⟨rfl, hbF⟩)
theorem rightM_any {W : World} (v : Value) {m : Ml} (hin : MlIn W v m) (hsz : AnySz m) : Calls Tryz.prog 10 #[v] W (YesNo (RightP m) W) := by
  by_cases hp : RightP m
  · exact (right_yes v hin hp).mono (fun _ _ h => yn_yes hp h)
  · exact (right_no v hin hp hsz).mono (fun _ _ h => yn_no hp h)
end Go.Proofs.YtpkaoiadjffjiaaGreat
