/- Set of views, of the program and of the document: walked. few, texts: walked. light of layer 22: walked. -/
import Derived.Test.YtcnebfmlelcliaaB10
import Derived.Test.YtcnebfmlelcliaaB16
import Derived.Test.YtcnebfmlelcliaaB02
import Derived.Test.YtcnebfmlelcliaaB03
import Derived.BigQuiet
import Derived.Deep.QuietTactic
import Derived.Lib.MinMax
namespace Go.Proofs.Ytcnebfmlelcliaa
set_option linter.unusedSimpArgs false
open Go.RowKit
attribute [local go_sem ↓] Go.wp_at_zero Go.wp_at_succ

/-- what Set takes of a Uid -/
def pickN (l : List (Nat × Nat)) (byUid : Bool) (u : Nat) : List Nat := match seqN l u with
  | 0 => []
  | n + 1 => [if byUid then u else n + 1]
def picksN (l : List (Nat × Nat)) (us : List Nat) (byUid : Bool) : List Nat := us.flatMap (pickN l byUid)
theorem picks_step {l : List (Nat × Nat)} {us : List Nat} {byUid : Bool} {k : Nat} (hk : k < us.length) : picksN l (us.take (k + 1)) byUid = picksN l (us.take k) byUid ++ pickN l byUid us[k] := by
  unfold picksN
  rw [List.take_succ_eq_append_getElem hk, List.flatMap_append]
  simp
theorem pickN_len (l : List (Nat × Nat)) (byUid : Bool) (u : Nat) : (pickN l byUid u).length ≤ 1 := by unfold pickN; split <;> simp
theorem picksN_len (l : List (Nat × Nat)) (byUid : Bool) : ∀ us : List Nat, (picksN l us byUid).length ≤ us.length
  | [] => by simp [picksN]
  | u :: r => by
    have h1 := picksN_len l byUid r
    have h2 := pickN_len l byUid u
    unfold picksN at h1 ⊢
    rw [List.flatMap_cons, List.length_append, List.length_cons]
    omega
theorem picksN_lt {l : List (Nat × Nat)} {us : List Nat} {byUid : Bool} (hl : l.length < 18446744073709551616) (hu : ∀ x ∈ us, x < 18446744073709551616) : ∀ x ∈ picksN l us byUid, x < 18446744073709551616 := fun x hx => by
  obtain ⟨u, h1, h2⟩ := List.mem_flatMap.1 hx
  have hs := seqN_le l u
  unfold pickN at h2
  cases h : seqN l u with
  | zero => rw [h] at h2; cases h2
  | succ n =>
    rw [h] at h2 hs
    rw [List.mem_singleton.1 h2]
    cases byUid with
    | true => exact hu u h1
    | false => show n + 1 < _; omega
set_option maxRecDepth 100000 in
set_option maxHeartbeats 16000000 in
theorem setV_any (s : ByteArray) (val : Nat) (l : List (Nat × Nat)) (us : List Nat) (v vu : Value) (byUid : Bool) (W : World) (hl : l.length ≤ 100000) (hul : us.length ≤ 100000) (hu : ∀ x ∈ us, x < 18446744073709551616) (hk : RangesIn W W.heap.size v l) (hr : Rd W vu us.length (us.map encU)) :
    Calls Try.prog 18 #[.agg #[.string s, .int .u64 val, v], vu, .bool byUid] W (NormRet (picksN l us byUid) W) := by
  have hrow := Lib.hid (fun W' u (hW : Below W.heap.size W W') => row_any s val l v u W' (by omega) (hk.on hW))
  have hr0 := Lib.hid (fun W' (hW : Below W.heap.size W W') => hr.below hW)
  obtain ⟨av, cv, hv, -⟩ := hk
  subst hv
  obtain ⟨ar, cr, hv, -⟩ := hr
  subst hv
  have hz1 := (Zoo.nil W).newBox [.string s, .int .u64 val, .slice av l.length cv].toArray 25
  generalize hVB : W.heap.size = VB at hz1
  generalize hWa : (W.alloc (.cells [.string s, .int .u64 val, .slice av l.length cv].toArray 25)) = Wa at hz1
  have hbW := hz1.bel
  have hV : Hid (∀ w', Below Wa.heap.size Wa w' → w'.cell? ⟨VB, 0, none⟩ = some (.string s) ∧ w'.cell? ⟨VB, 1, none⟩ = some (.int .u64 val) ∧ w'.cell? ⟨VB, 2, none⟩ = some (.slice av l.length cv)) := Lib.hid (fun w' hB => by
    have := heap_below (hz1.box 0 rfl).1 hB
    exact ⟨box_cell this 0, box_cell this 1, box_cell this 2⟩)
  replace hbW := Lib.hid hbW
  replace hu := Lib.hid hu
  clear hz1
  go_enter Try.func18, Try.ntmps18
  go_upto_region 1 with fail
  clear hWa
  go_wp2_with fail
  go_loopw [7, 13] (fun v7 v13 wr => ∃ q : Nat, v13 = .int .i64 q ∧ q ≤ us.length ∧ Hid (OwnN wr Wa.heap.size v7 (picksN l (us.take q) byUid)) ∧ Hid (Below Wa.heap.size Wa wr)) (fun _ v13 _ => us.length - (intOf v13).toNat)
  case atStart => exact ⟨0, rfl, Nat.zero_le _, Lib.hid (OwnN.nil _ _), Lib.hid (Below.refl _ _)⟩
  case round =>
    obtain ⟨q, rfl, hq, hown, hb⟩ := hrel
    have hBW := Lib.hid (hbW.out.trans (hb.out.mono hbW.out.size))
    by_cases hlt : q < us.length
    · obtain ⟨x0, x1, x2⟩ := hV.out wr hb.out
      obtain ⟨b, o, hao, hbB, hcs⟩ := (hr0.out wr hBW.out).at_pos (by omega)
      subst hao
      have r0 : wr.cell? ⟨b, o + q, none⟩ = some (.int .u64 (us[q] : Nat)) := hcs q _ (by rw [List.getElem?_map, List.getElem?_eq_getElem hlt]; rfl)
      have hst := Lib.hid (picks_step (l := l) (byUid := byUid) hlt)
      have hln : Hid ((picksN l (us.take q) byUid).length ≤ 100000) := Lib.hid (by have := picksN_len l byUid (us.take q); rw [List.length_take] at this; omega)
      obtain ⟨u, hu'⟩ : ∃ u, us[q] = u := ⟨_, rfl⟩
      rw [hu'] at r0 hst
      have hl0 : (0 : Int) ≤ (q : Int) := by omega
      have hl1 : (q : Int) < (us.length : Int) := by omega
      have hcall := Lib.hid (hrow.out wr u hBW.out)
      have hsl := seqN_le l u
      have hpk : Hid (pickN l byUid u = match seqN l u with | 0 => [] | n + 1 => [if byUid then u else n + 1]) := Lib.hid rfl
      generalize seqN l u = sn at hcall hsl hpk
      clear hu' hbB hcs
      go_wp2_with fail
      refine hcall.out.mono ?_
      rintro e w5 ⟨rfl, hb5⟩
      have hb6 := Lib.hid (hb.out.trans (hb5.out.mono hb.out.size))
      have ho5 := Lib.hid (hown.out.below hb5.out)
      clear hcall hb5 hown hb x0 x1 x2 r0
      cases sn with
      | zero =>
        have e1 : decide (((0 : Nat) : Int) - 1 < 0) = true := by decide
        have ho6 : Hid (OwnN w5 Wa.heap.size u7 (picksN l (us.take (q + 1)) byUid)) := Lib.hid (by rw [hst.out, hpk.out]; show OwnN w5 _ u7 (_ ++ []); rw [List.append_nil]; exact ho5.out)
        clear hst hpk ho5 hln
        go_wp2_with fail
        go_roundw
        case rel => exact ⟨q + 1, by go_num, by omega, ho6, hb6⟩
        case measure => simp [intOf] <;> omega
      | succ sn =>
        have hii : (((sn + 1 : Nat) : Int) - 1) = (sn : Int) := by omega
        rw [hii]
        have e1 : decide ((sn : Int) < 0) = false := decide_eq_false (by omega)
        have e2 : ¬ (sn : Int) < 0 := by omega
        have hw1 : IntKind.i64.wrap ((sn : Int) + 1) = (sn : Int) + 1 := by rw [IntKind.wrap_i64]; omega
        have hw2 : IntKind.u64.wrap ((sn : Int) + 1) = (sn : Int) + 1 := by rw [IntKind.wrap_u64]; omega
        have hsz8 : Hid (((picksN l (us.take q) byUid).length + 1) * 8 ≤ 140737488355328) := Lib.hid (by have := hln.out; omega)
        have hsz := hb6.out.size
        obtain ⟨out, hout⟩ : ∃ out, picksN l (us.take q) byUid = out := ⟨_, rfl⟩
        rw [hout] at hst ho5 hsz8
        clear hii hout hln hsl
        cases byUid with
        | true =>
          replace hst : Hid (picksN l (us.take (q + 1)) true = out ++ [u]) := Lib.hid (by rw [hst.out, hpk.out]; rfl)
          clear hpk hw1 hw2
          go_wp2_with (at_builtin; refine wpList_append_num (W := w5) rfl (.tmp 31) (.tmp 33) rfl Wa.heap.size u7 out u rfl rfl ho5.out hsz8.out hsz ?_)
          intro v7 w7 ho7 hb7
          have hb8 := Lib.hid (hb6.out.trans hb7)
          have ho8 : Hid (OwnN w7 Wa.heap.size v7 (picksN l (us.take (q + 1)) true)) := Lib.hid (by rw [hst.out]; exact ho7)
          clear ho7 hb7 ho5 hst hb6 hsz
          go_wp2_with fail
          go_roundw
          case rel => exact ⟨q + 1, by go_num, by omega, ho8, hb8⟩
          case measure => simp [intOf] <;> omega
        | false =>
          replace hst : Hid (picksN l (us.take (q + 1)) false = out ++ [sn + 1]) := Lib.hid (by rw [hst.out, hpk.out]; rfl)
          clear hpk
          go_wp2_with (at_builtin; refine wpList_append_num (W := w5) rfl (.tmp 20) (.tmp 24) rfl Wa.heap.size u7 out (sn + 1) rfl rfl ho5.out hsz8.out hsz ?_)
          intro v7 w7 ho7 hb7
          have hb8 := Lib.hid (hb6.out.trans hb7)
          have ho8 : Hid (OwnN w7 Wa.heap.size v7 (picksN l (us.take (q + 1)) false)) := Lib.hid (by rw [hst.out]; exact ho7)
          clear ho7 hb7 ho5 hst hb6 hsz
          go_wp2_with fail
          go_roundw
          case rel => exact ⟨q + 1, by go_num, by omega, ho8, hb8⟩
          case measure => simp [intOf] <;> omega
    · obtain rfl : q = us.length := by omega
      rw [List.take_length] at hown
      have hnc := Lib.hid (norm_any sort_all (picksN l us byUid) u7 wr hown.out.rd (by have := picksN_len l byUid us; omega) (by have := picksN_len l byUid us; omega) (picksN_lt (by omega) hu.out))
      go_wp2_with fail
      refine hnc.out.mono ?_
      rintro e w9 ⟨vn, ts, rfl, hri, ho9, hb9⟩
      have ho10 : Hid (OwnR w9 W.heap.size vn (normF ts)) := Lib.hid (by
        refine ⟨ho9.out.1, ?_⟩
        rcases ho9.out.2 with h2 | ⟨g, cap, cur, hv, hbb, r⟩
        · exact .inl h2
        · exact .inr ⟨g, cap, cur, hv, Nat.le_trans hBW.out.size hbb, r⟩)
      have hb10 := Lib.hid (hBW.out.trans (hb9.out.mono hBW.out.size))
      clear ho9 hb9 hnc hown
      go_wp2_with fail
      go_ret
      exact ⟨vn, ts, rfl, hri, ho10, hb10⟩
set_option maxRecDepth 100000 in
set_option maxHeartbeats 16000000 in
theorem refSetV_any (s : ByteArray) (val : Nat) (l : List (Nat × Nat)) (us ts : List Nat) (v vu : Value) (byUid : Bool) (W : World) (hl : l.length ≤ 100000) (hul : us.length ≤ 100000) (hu : ∀ x ∈ us, x < 18446744073709551616) (hk : RangesIn W W.heap.size v l) (hr : Rd W vu us.length (us.map encU)) (hri : Rising (picksN l us byUid) ts) :
    Calls Try.prog 19 #[.agg #[.string s, .int .u64 val, v], vu, .bool byUid] W fun e w' => ∃ v', e = .returned v' ∧ Hid (OwnR w' W.heap.size v' (normF ts)) ∧ Hid (Below W.heap.size W w') := by
  have hsq := Lib.hid (fun W' u (hW : Below W.heap.size W W') => refSeq_any s val l v u W' (by omega) (hk.on hW))
  have hr0 := Lib.hid (fun W' (hW : Below W.heap.size W W') => hr.below hW)
  obtain ⟨av, cv, hv, -⟩ := hk
  subst hv
  obtain ⟨ar, cr, hv, -⟩ := hr
  subst hv
  have hz1 := (Zoo.nil W).newBox [.string s, .int .u64 val, .slice av l.length cv].toArray 25
  generalize hVB : W.heap.size = VB at hz1
  generalize hWa : (W.alloc (.cells [.string s, .int .u64 val, .slice av l.length cv].toArray 25)) = Wa at hz1
  have hbW := hz1.bel
  have hV : Hid (∀ w', Below Wa.heap.size Wa w' → w'.cell? ⟨VB, 0, none⟩ = some (.string s) ∧ w'.cell? ⟨VB, 1, none⟩ = some (.int .u64 val) ∧ w'.cell? ⟨VB, 2, none⟩ = some (.slice av l.length cv)) := Lib.hid (fun w' hB => by
    have := heap_below (hz1.box 0 rfl).1 hB
    exact ⟨box_cell this 0, box_cell this 1, box_cell this 2⟩)
  replace hbW := Lib.hid hbW
  replace hu := Lib.hid hu
  replace hri := Lib.hid hri
  clear hz1
  go_enter Try.func19, Try.ntmps19
  go_upto_region 1 with fail
  clear hWa
  go_wp2_with fail
  go_loopw [7, 8, 9] (fun v7 v8 _ wr => ∃ q : Nat, v8 = .int .i64 q ∧ q ≤ us.length ∧ Hid (OwnN wr Wa.heap.size v7 (picksN l (us.take q) byUid)) ∧ Hid (Below Wa.heap.size Wa wr)) (fun _ v8 _ _ => us.length - (intOf v8).toNat)
  case atStart => exact ⟨0, rfl, Nat.zero_le _, Lib.hid (OwnN.nil _ _), Lib.hid (Below.refl _ _)⟩
  case round =>
    obtain ⟨q, rfl, hq, hown, hb⟩ := hrel
    have hBW := Lib.hid (hbW.out.trans (hb.out.mono hbW.out.size))
    by_cases hlt : q < us.length
    · obtain ⟨b, o, hao, hbB, hcs⟩ := (hr0.out W (Below.refl _ _)).at_pos (by omega)
      subst hao
      have hcel : ∀ w', Below W.heap.size W w' → w'.cell? ⟨b, o + q, none⟩ = some (.int .u64 (us[q] : Nat)) := fun w' hB => (hB.cell (p := ⟨b, o + q, none⟩) hbB).trans (hcs q _ (by rw [List.getElem?_map, List.getElem?_eq_getElem hlt]; rfl))
      have hst := Lib.hid (picks_step (l := l) (byUid := byUid) hlt)
      have hln : Hid ((picksN l (us.take q) byUid).length ≤ 100000) := Lib.hid (by have := picksN_len l byUid (us.take q); rw [List.length_take] at this; omega)
      obtain ⟨u, hu'⟩ : ∃ u, us[q] = u := ⟨_, rfl⟩
      rw [hu'] at hcel hst
      have hl0 : (0 : Int) ≤ (q : Int) := by omega
      have hl1 : (q : Int) < (us.length : Int) := by omega
      have hcall0 : Hid (∀ w', Below W.heap.size W w' → Calls Try.prog 11 #[.agg #[.string s, .int .u64 val, .slice av l.length cv], .int .u64 u] w' fun e w2 => e = .returned (.int .i64 (seqN l u : Nat)) ∧ Hid (Below w'.heap.size w' w2)) := Lib.hid (fun w' hB => hsq.out w' u hB)
      have hsl := seqN_le l u
      have hpk : Hid (pickN l byUid u = match seqN l u with | 0 => [] | n + 1 => [if byUid then u else n + 1]) := Lib.hid rfl
      generalize seqN l u = sn at hcall0 hsl hpk
      replace hcel := Lib.hid hcel
      clear hu' hbB hcs
      go_upto_region 5 with fail
      have hbd := hb.out.drew
      have hBd := hBW.out.drew
      obtain ⟨x0, x1, x2⟩ := hV.out _ hbd
      have r0 := hcel.out _ hBd
      refine wp_region_hd (fun w' => (w'.cell? ⟨VB, 0, none⟩ = some (.string s) ∧ w'.cell? ⟨VB, 1, none⟩ = some (.int .u64 val) ∧ w'.cell? ⟨VB, 2, none⟩ = some (.slice av l.length cv)) ∧ w'.cell? ⟨b, o + q, none⟩ = some (.int .u64 u)) 6 1 (by kernel_rfl) rfl ⟨by kernel_rfl, by kernel_rfl, by kernel_rfl, by decide⟩ ⟨⟨x0, x1, x2⟩, r0⟩ (fun hok hS0 => ?_)
      have hod := hown.out.below ((Below.refl wr.heap.size wr).drew)
      generalize wr.drew = wd at *
      refine Hd.take (i := 0) (v := ?tv69) hok rfl (by kernel_rfl) (fun _ _ _ h => h) (Or.inl ⟨by rfl, ?ty69⟩) (by assumption) ?tr69
      case ty69 => (intro w hSw; (try dsimp only at hSw); go_simp; (try with_reducible rfl))
      try simp only [List.getElem_toArray, List.getElem_cons_succ, List.getElem_cons_zero, Act.put, List.setIfInBounds_toArray, List.set_cons_zero, List.set_cons_succ]
      refine Hd.take (i := 1) (v := ?tv70) hok rfl (by kernel_rfl) (fun _ _ _ h => h) (Or.inl ⟨by rfl, ?ty70⟩) (by assumption) ?tr70
      case ty70 => (intro w hSw; (try dsimp only at hSw); go_simp; (try with_reducible rfl))
      try simp only [List.getElem_toArray, List.getElem_cons_succ, List.getElem_cons_zero, Act.put, List.setIfInBounds_toArray, List.set_cons_zero, List.set_cons_succ]
      refine Hd.take (i := 2) (v := ?tv71) hok rfl (by kernel_rfl) (fun _ _ _ h => h) (Or.inl ⟨by rfl, ?ty71⟩) (by assumption) ?tr71
      case ty71 => (intro w hSw; (try dsimp only at hSw); go_simp; (try with_reducible rfl))
      try simp only [List.getElem_toArray, List.getElem_cons_succ, List.getElem_cons_zero, Act.put, List.setIfInBounds_toArray, List.set_cons_zero, List.set_cons_succ]
      refine Hd.take (i := 3) (v := ?tv72) hok rfl (by kernel_rfl) (fun _ _ _ h => h) (Or.inl ⟨by rfl, ?ty72⟩) (by assumption) ?tr72
      case ty72 => (intro w hSw; (try dsimp only at hSw); go_simp; (try with_reducible rfl))
      try simp only [List.getElem_toArray, List.getElem_cons_succ, List.getElem_cons_zero, Act.put, List.setIfInBounds_toArray, List.set_cons_zero, List.set_cons_succ]
      refine Hd.take (i := 4) (v := ?tv73) hok rfl (by kernel_rfl) (fun _ _ _ h => h) (Or.inl ⟨by rfl, ?ty73⟩) (by assumption) ?tr73
      case ty73 => (intro w hSw; (try dsimp only at hSw); go_simp; (try with_reducible rfl))
      try simp only [List.getElem_toArray, List.getElem_cons_succ, List.getElem_cons_zero, Act.put, List.setIfInBounds_toArray, List.set_cons_zero, List.set_cons_succ]
      refine Hd.one (i := 5) rfl (by kernel_rfl) (fun K hK => ?_)
      go_simp
      refine (hcall0.out _ hBd).mono ?_
      rintro e w5 ⟨rfl, hb5⟩
      dsimp only
      have hb6 := Lib.hid (hbd.trans (hb5.out.mono hbd.size))
      have ho5 := Lib.hid (hod.below hb5.out)
      have r5 := hcel.out w5 (hbW.out.trans (hb6.out.mono hbW.out.size))
      refine hK _ _ ⟨hV.out _ hb6.out, r5⟩ ?_
      clear hK K
      try simp only [List.getElem_toArray, List.getElem_cons_succ, List.getElem_cons_zero, Act.put, List.setIfInBounds_toArray, List.set_cons_zero, List.set_cons_succ]
      refine Hd.done (by kernel_rfl) ?_
      simp only [List.drop_succ_cons, List.drop_zero]
      clear hok hS0 x0 x1 x2 r0 hbd hBd hod hb5 hcall0 hown hb hBW
      cases sn with
      | zero =>
        have e1 : decide ((0 : Int) < ((0 : Nat) : Int)) = false := by decide
        have ho6 : Hid (OwnN w5 Wa.heap.size u7 (picksN l (us.take (q + 1)) byUid)) := Lib.hid (by rw [hst.out, hpk.out]; show OwnN w5 _ u7 (_ ++ []); rw [List.append_nil]; exact ho5.out)
        clear hst hpk ho5 hln r5
        go_wp2_with fail
        go_roundw
        case rel => exact ⟨q + 1, by go_num, by omega, ho6, hb6⟩
        case measure => simp [intOf] <;> omega
      | succ sn =>
        have e1 : decide ((0 : Int) < ((sn + 1 : Nat) : Int)) = true := decide_eq_true (by omega)
        have e2 : (0 : Int) < ((sn + 1 : Nat) : Int) := by omega
        have hw2 : IntKind.u64.wrap ((sn + 1 : Nat) : Int) = ((sn + 1 : Nat) : Int) := by rw [IntKind.wrap_u64]; omega
        have hsz8 : Hid (((picksN l (us.take q) byUid).length + 1) * 8 ≤ 140737488355328) := Lib.hid (by have := hln.out; omega)
        have hsz := hb6.out.size
        obtain ⟨out, hout⟩ : ∃ out, picksN l (us.take q) byUid = out := ⟨_, rfl⟩
        rw [hout] at hst ho5 hsz8
        clear hout hln
        obtain ⟨k, hk⟩ : ∃ k, sn + 1 = k := ⟨_, rfl⟩
        rw [hk] at hpk e1 e2 hw2 ⊢
        cases byUid with
        | true =>
          replace hst : Hid (picksN l (us.take (q + 1)) true = out ++ [u]) := Lib.hid (by rw [hst.out, hpk.out, ← hk]; rfl)
          clear hpk hw2 hk hsl
          go_wp2_with (at_builtin; refine wpList_append_num (W := w5) rfl (.tmp 27) (.tmp 32) rfl Wa.heap.size u7 out u rfl rfl ho5.out hsz8.out hsz ?_)
          intro v7 w7 ho7 hb7
          have hb8 := Lib.hid (hb6.out.trans hb7)
          have ho8 : Hid (OwnN w7 Wa.heap.size v7 (picksN l (us.take (q + 1)) true)) := Lib.hid (by rw [hst.out]; exact ho7)
          clear ho7 hb7 ho5 hst hb6 hsz r5
          go_wp2_with fail
          go_roundw
          case rel => exact ⟨q + 1, by go_num, by omega, ho8, hb8⟩
          case measure => simp [intOf] <;> omega
        | false =>
          replace hst : Hid (picksN l (us.take (q + 1)) false = out ++ [k]) := Lib.hid (by rw [hst.out, hpk.out, ← hk]; rfl)
          clear hpk hk hsl r5
          go_wp2_with (at_builtin; refine wpList_append_num (W := w5) rfl (.tmp 40) (.tmp 43) rfl Wa.heap.size u7 out k rfl rfl ho5.out hsz8.out hsz ?_)
          intro v7 w7 ho7 hb7
          have hb8 := Lib.hid (hb6.out.trans hb7)
          have ho8 : Hid (OwnN w7 Wa.heap.size v7 (picksN l (us.take (q + 1)) false)) := Lib.hid (by rw [hst.out]; exact ho7)
          clear ho7 hb7 ho5 hst hb6 hsz
          go_wp2_with fail
          go_roundw
          case rel => exact ⟨q + 1, by go_num, by omega, ho8, hb8⟩
          case measure => simp [intOf] <;> omega
    · obtain rfl : q = us.length := by omega
      rw [List.take_length] at hown
      have hpl := picksN_len l byUid us
      have htl : ts.length ≤ (picksN l us byUid).length := nodup_len ts _ hri.out.1.1 (fun x hx => ((hri.out.2 x).1 hx).2)
      have hnl : (normF ts).length ≤ 1000000 := by
        have := normF_len ts []
        simp only [List.length_nil, Nat.zero_add] at this
        show (ts.foldl normStep []).length ≤ _
        omega
      have hnc := Lib.hid (refNorm_any (picksN l us byUid) ts (normF ts) u7 wr hown.out.rd (by omega) hri.out.2 (picksN_lt (by omega) hu.out) hri.out.ninv hnl)
      clear hpl htl hnl
      go_wp2_with fail
      refine hnc.out.mono ?_
      rintro e w9 ⟨vn, rfl, ho9, hb9⟩
      have ho10 : Hid (OwnR w9 W.heap.size vn (normF ts)) := Lib.hid (by
        refine ⟨ho9.out.1, ?_⟩
        rcases ho9.out.2 with h2 | ⟨g, cap, cur, hv, hbb, r⟩
        · exact .inl h2
        · exact .inr ⟨g, cap, cur, hv, Nat.le_trans hBW.out.size hbb, r⟩)
      have hb10 := Lib.hid (hBW.out.trans (hb9.out.mono hBW.out.size))
      clear ho9 hb9 hnc hown
      go_wp2_with fail
      go_ret
      exact ⟨vn, rfl, by first | exact ho10 | (rw [← hVB]; exact ho10), by first | exact hb10 | (rw [← hVB]; exact hb10)⟩
end Go.Proofs.Ytcnebfmlelcliaa
namespace Go.Proofs.Ytcnebfmlelcliaa
set_option linter.unusedSimpArgs false
open Go.RowKit
attribute [local go_sem ↓] Go.wp_at_zero Go.wp_at_succ

theorem rd_cell {w : World} {b o k : Nat} {l : List (List UInt8)} (hc : ∀ i u, (l.map encStr)[i]? = some u → w.cell? ⟨b, o + i, none⟩ = some u) (hk : k < l.length) : w.cell? ⟨b, o + k, none⟩ = some (.string (mkB l[k])) := hc k _ (by rw [List.getElem?_map, List.getElem?_eq_getElem hk]; rfl)
def fewN (n : Nat) : Nat := min n 1048576
theorem fewN_le (n : Nat) : fewN n ≤ 1048576 := Nat.min_le_right _ _
theorem few_any (n : Nat) (w : World) : Calls Try.prog 36 #[.int .i64 n] w fun e w' => e = .returned (.int .i64 (fewN n)) ∧ w = w' := by
  have e : min (n : Int) 1048576 = ((fewN n : Nat) : Int) := by unfold fewN; omega
  go_enter Try.func36, Try.ntmps36
  go_wp2_with fail
  go_ret
  exact ⟨by first | rw [e] | (congr 2), rfl⟩
def textN (s : List UInt8) : Nat := fewN s.length / 16
def textsN (l : List (List UInt8)) : Nat := if 200 < l.length then 1048576 else l.length + (l.map textN).sum
theorem textN_le (s : List UInt8) : textN s ≤ 65536 := by unfold textN; have := fewN_le s.length; omega
theorem sum_le {α : Type} (f : α → Nat) (c : Nat) (h : ∀ x, f x ≤ c) : ∀ l : List α, (l.map f).sum ≤ l.length * c
  | [] => by simp
  | x :: r => by
    have := sum_le f c h r
    have := h x
    simp only [List.map_cons, List.sum_cons, List.length_cons, Nat.succ_mul]
    omega
theorem sum_mem_le {α : Type} (f : α → Nat) (c : Nat) : ∀ (l : List α), (∀ x ∈ l, f x ≤ c) → (l.map f).sum ≤ l.length * c
  | [], _ => by simp
  | x :: r, h => by
    have := sum_mem_le f c r (fun y hy => h y (by simp [hy]))
    have := h x (by simp)
    simp only [List.map_cons, List.sum_cons, List.length_cons, Nat.succ_mul]
    omega
theorem sum_take {α : Type} (f : α → Nat) (l : List α) (j : Nat) (hj : j < l.length) : ((l.take (j + 1)).map f).sum = ((l.take j).map f).sum + f l[j] := by
  rw [List.take_succ_eq_append_getElem hj, List.map_append, List.sum_append]; simp
theorem sum_take_le {α : Type} (f : α → Nat) (c n : Nat) (l : List α) (j : Nat) (hj : j ≤ n) (h : ∀ x ∈ l, f x ≤ c) : ((l.take j).map f).sum ≤ n * c := by
  refine Nat.le_trans (sum_mem_le f c (l.take j) (fun x hx => h x (List.mem_of_mem_take hx))) ?_
  exact Nat.mul_le_mul_right c (by rw [List.length_take]; omega)
theorem textsN_le (l : List (List UInt8)) : textsN l ≤ 13107400 := by
  unfold textsN
  split
  · omega
  · have := sum_le textN 65536 textN_le l
    omega
set_option maxRecDepth 100000 in
set_option maxHeartbeats 4000000 in
theorem texts_any (v : Value) (l : List (List UInt8)) (w : World) (hr : FlIn w v l) : Calls Try.prog 24 #[v] w fun e w' => e = .returned (.int .i64 (textsN l)) ∧ w = w' := by
  obtain ⟨ao, cap, rfl, hc⟩ := hr
  by_cases h200 : 200 < l.length
  · have hR : Hid (textsN l = 1048576) := Lib.hid (by unfold textsN; rw [if_pos h200])
    have h200' : (200 : Int) < (l.length : Int) := by omega
    clear hc
    go_enter Try.func24, Try.ntmps24
    go_wp2_with fail
    go_ret
    exact ⟨by rw [hR.out]; rfl, rfl⟩
  · have h200' : decide ((200 : Int) < (l.length : Int)) = false := decide_eq_false (by omega)
    have hR : Hid (textsN l = l.length + ((l.take l.length).map textN).sum) := Lib.hid (by unfold textsN; rw [if_neg h200, List.take_length])
    replace hc := Lib.hid hc
    go_enter Try.func24, Try.ntmps24
    go_wp2_with fail
    go_loopw [3, 4] (fun v3 v4 wr => ∃ j N : Nat, v4 = .int .i64 j ∧ v3 = .int .i64 N ∧ j ≤ l.length ∧ Hid (N = l.length + ((l.take j).map textN).sum) ∧ w = wr) (fun _ v4 _ => l.length - (intOf v4).toNat)
    case atStart => exact ⟨0, l.length, rfl, rfl, Nat.zero_le _, Lib.hid (by simp), rfl⟩
    case round =>
      obtain ⟨j, N, rfl, rfl, hj, hN, rfl⟩ := hrel
      have hb := sum_take_le textN 65536 200 l j (by omega) (fun x _ => textN_le x)
      have hNb : N ≤ 13107400 := by have := hN.out; omega
      clear hb
      by_cases hlt : j < l.length
      · rcases hc.out with h | ⟨b, o, rfl, hb2, hle, hcell⟩
        · omega
        · have c0 := rd_cell hcell hlt
          have hs := Lib.hid (sum_take textN l j hlt)
          obtain ⟨x, hx⟩ : ∃ x, l[j] = x := ⟨_, rfl⟩
          rw [hx] at c0 hs
          have hxz : (mkB x).size = x.length := rfl
          have htl := textN_le x
          have hN2 : Hid (N + fewN (mkB x).size / 16 = l.length + ((l.take (j + 1)).map textN).sum) := Lib.hid (by
            rw [hs.out, hN.out, hxz]
            unfold textN
            omega)
          have hjI : (0 : Int) ≤ (j : Int) := by omega
          have hjl : (j : Int) < (l.length : Int) := by omega
          have hfew := Lib.hid (few_any (mkB x).size w)
          have hfl := fewN_le (mkB x).size
          generalize fewN (mkB x).size = fw at *
          clear hx hcell hxz hs hN htl
          go_wp2_with fail
          refine hfew.out.mono ?_
          rintro e w1 ⟨rfl, rfl⟩
          go_wp2_with fail
          go_roundw
          case rel => exact ⟨j + 1, N + fw / 16, by go_num, by congr 1, by omega, hN2, trivial⟩
          case measure => simp [intOf] <;> omega
      · have hl1 : (l.length : Int) ≤ (j : Int) := by omega
        have hRN : Hid (textsN l = N) := Lib.hid (by rw [hR.out, hN.out, show j = l.length from by omega])
        clear hR hN hc
        go_wp2_with fail
        go_ret
        exact ⟨by rw [hRN.out]; rfl, rfl⟩
end Go.Proofs.Ytcnebfmlelcliaa
namespace Go.Proofs.Ytcnebfmlelcliaa
set_option linter.unusedSimpArgs false
open Go.RowKit
attribute [local go_sem ↓] Go.wp_at_zero Go.wp_at_succ

def flagsN (rows : List LtV) : Nat := (rows.map fun y => textsN y.x.flags).sum
def lightV (l : List (Nat × Nat)) (rows : List LtV) : Bool := decide (l.length ≤ 300) && decide (rows.length ≤ 300) && decide (flagsN rows ≤ 2000)
theorem flagsN_step {rows : List LtV} {k : Nat} (hk : k < rows.length) : flagsN (rows.take (k + 1)) = flagsN (rows.take k) + textsN rows[k].x.flags := by
  unfold flagsN
  rw [List.take_succ_eq_append_getElem hk, List.map_append, List.sum_append]
  simp
theorem flagsN_le (rows : List LtV) : flagsN rows ≤ rows.length * 13107400 := by
  unfold flagsN
  have := sum_le (fun y : LtV => textsN y.x.flags) 13107400 (fun y => textsN_le y.x.flags) rows
  exact this
set_option maxRecDepth 100000 in
set_option maxHeartbeats 16000000 in
theorem lightV_any (s : ByteArray) (val : Nat) (l : List (Nat × Nat)) (v : Value) (z : BxV) (W : World) (hk : RangesIn W W.heap.size v l) (hb : LtsIn W z.v z.rows) :
    Calls Try.prog 6 #[.agg #[.string s, .int .u64 val, v], .agg #[.string z.name, .int .u64 z.validity, .int .u64 z.next, .int .u64 z.high, .slice z.a z.rows.length z.c]] W fun e w' => e = .returned (.bool (lightV l z.rows)) ∧ Hid (Below W.heap.size W w') := by
  obtain ⟨nm, vl, nx, hi, rows, a, c⟩ := z
  dsimp only at hb ⊢
  have hb0 := Lib.hid (fun (W' : World) (h : Below W.heap.size W W') => hb.below h)
  obtain ⟨av, cv, hv, -⟩ := hk
  subst hv
  have hz1 := (Zoo.nil W).newBox [.string s, .int .u64 val, .slice av l.length cv].toArray 25
  generalize hVB : W.heap.size = VB at hz1
  generalize hWa : (W.alloc (.cells [.string s, .int .u64 val, .slice av l.length cv].toArray 25)) = Wa at hz1
  have hz2 := hz1.newBox [.string nm, .int .u64 vl, .int .u64 nx, .int .u64 hi, .slice a rows.length c].toArray 28
  generalize hBB : Wa.heap.size = BB at hz2
  generalize hWb : (Wa.alloc (.cells [.string nm, .int .u64 vl, .int .u64 nx, .int .u64 hi, .slice a rows.length c].toArray 28)) = Wb at hz2
  have hV : Hid (∀ w', Below Wb.heap.size Wb w' → w'.cell? ⟨VB, 2, none⟩ = some (.slice av l.length cv) ∧ w'.cell? ⟨BB, 4, none⟩ = some (.slice a rows.length c)) := Lib.hid (fun w' hB => ⟨box_cell (heap_below (hz2.box 1 rfl).1 hB) 2, box_cell (heap_below (hz2.box 0 rfl).1 hB) 4⟩)
  have hbW := Lib.hid hz2.bel
  obtain ⟨x2, y4⟩ := hV.out Wb (Below.refl _ _)
  clear hz1 hz2 hb
  by_cases c1 : 300 < l.length
  · have c1' : (300 : Int) < (l.length : Int) := by omega
    have hr : Hid (lightV l rows = false) := Lib.hid (by unfold lightV; rw [decide_eq_false (by omega), Bool.false_and, Bool.false_and])
    go_enter Try.func6, Try.ntmps6
    go_wp2_with fail
    go_ret
    exact ⟨ret_bool hr.out.symm, by first | exact hbW | (rw [← hVB]; exact hbW)⟩
  have c1' : decide ((300 : Int) < (l.length : Int)) = false := decide_eq_false (by omega)
  by_cases c2 : 300 < rows.length
  · have c2' : (300 : Int) < (rows.length : Int) := by omega
    have hr : Hid (lightV l rows = false) := Lib.hid (by unfold lightV; rw [decide_eq_false (p := rows.length ≤ 300) (by omega), Bool.and_false, Bool.false_and])
    clear c1
    go_enter Try.func6, Try.ntmps6
    go_wp2_with fail
    go_ret
    exact ⟨ret_bool hr.out.symm, by first | exact hbW | (rw [← hVB]; exact hbW)⟩
  have c2' : decide ((300 : Int) < (rows.length : Int)) = false := decide_eq_false (by omega)
  have e1 : l.length ≤ 300 := by omega
  have e2 : rows.length ≤ 300 := by omega
  clear c1 c2
  go_enter Try.func6, Try.ntmps6
  go_wp2_with fail
  clear c1' c2'
  go_loopw [5, 6] (fun v5 v6 wr => ∃ q N : Nat, v6 = .int .i64 q ∧ v5 = .int .i64 N ∧ q ≤ rows.length ∧ Hid (N = flagsN (rows.take q)) ∧ wr = Wb) (fun _ v6 _ => rows.length - (intOf v6).toNat)
  case atStart => exact ⟨0, 0, rfl, rfl, Nat.zero_le _, Lib.hid rfl, by trivial⟩
  case round =>
    obtain ⟨q, N, rfl, rfl, hq, hN, rfl⟩ := hrel
    have hNb : N ≤ 300 * 13107400 := by
      have h1 := hN.out
      have h2 := flagsN_le (rows.take q)
      have h3 : (rows.take q).length ≤ 300 := by rw [List.length_take]; omega
      have h4 := Nat.mul_le_mul_right 13107400 h3
      omega
    by_cases hlt : q < rows.length
    · obtain ⟨b, o, cap', hv, -, -, r1, -⟩ := (hb0.out wr hbW.out).at_ hlt
      have hfl := (hb0.out wr hbW.out).2 _ (List.getElem_mem hlt)
      injection hv with q1 q2 q3
      subst q1 q3
      have hst := Lib.hid (flagsN_step hlt)
      obtain ⟨y, hy⟩ : ∃ y, rows[q] = y := ⟨_, rfl⟩
      rw [hy] at r1 hfl hst
      have hq0 : (0 : Int) ≤ (q : Int) := by omega
      have hq1 : (q : Int) < (rows.length : Int) := by omega
      have htx := Lib.hid (texts_any y.v y.x.flags wr hfl)
      have htl := textsN_le y.x.flags
      have hN2 : Hid (N + textsN y.x.flags = flagsN (rows.take (q + 1))) := Lib.hid (by rw [hst.out, hN.out])
      unfold LtV.v at htx
      generalize textsN y.x.flags = T at htx htl hN2
      have hw1 : IntKind.i64.wrap ((N : Int) + (T : Int)) = (N : Int) + (T : Int) := by rw [IntKind.wrap_i64]; omega
      clear hfl hst hy hN
      go_wp2_with fail
      refine htx.out.mono ?_
      rintro e w5 ⟨rfl, rfl⟩
      clear htx r1
      go_wp2_with fail
      go_roundw
      case rel => exact ⟨q + 1, N + T, by go_num, by congr 1, by omega, hN2, by trivial⟩
      case measure => simp [intOf] <;> omega
    · obtain rfl : q = rows.length := by omega
      rw [List.take_length] at hN
      have hr : Hid (lightV l rows = decide ((N : Int) ≤ 2000)) := Lib.hid (by
        unfold lightV
        rw [decide_eq_true e1, decide_eq_true e2, Bool.true_and, Bool.true_and, ← hN.out, decide_eq_decide]
        omega)
      clear hN
      go_wp2_with fail
      go_ret
      exact ⟨ret_bool hr.out.symm, by first | exact hbW | (rw [← hVB]; exact hbW)⟩
end Go.Proofs.Ytcnebfmlelcliaa
