/- act on both nets, sending many, and doing nothing; any act: walked. -/
import Derived.Test.YtjopbglimjhefaaNfL
namespace Go.Proofs.Ytjopbglimjhefaa
set_option linter.unusedSimpArgs false
open Go.RowKit Go.Maps Go.WideMaps

set_option maxRecDepth 100000 in
set_option maxHeartbeats 8000000 in
theorem act_many {W0 W : World} {L : List Th} (bn bx : Nat) (s : Ns) (r : Rs) (n : Nat) (hn : n ≤ 500000) (hI : PlayI s r n) (x y k : Int) (t : ByteArray) (hz : Zoo W0 W (netT bn s :: refT bx r :: L)) :
    Calls Try.prog 16 #[.pointer (some ⟨bn, 0, none⟩), .pointer (some ⟨bx, 0, none⟩), .agg #[.int .i64 8, .int .i64 x, .int .i64 y, .int .i64 k, .string t]] W (ActRet W0 L bn bx (n + 600)) := by
  have hz1 := hz.newBox #[.int .i64 8, .int .i64 x, .int .i64 y, .int .i64 k, .string t] 39
  replace hz1 := Lib.hid hz1
  replace hI := Lib.hid hI
  clear hz
  go_enter Try.func16, Try.ntmps16
  go_wp2_with fail
  generalize W.heap.size = B at hz1 ⊢
  go_loopw [19] (fun v19 wr => ∃ (i : Nat) (s1 : Ns) (r1 : Rs), v19 = .int .i64 i ∧ i ≤ 520 ∧ Hid (Zoo W0 wr (boxT B #[.int .i64 8, .int .i64 x, .int .i64 y, .int .i64 k, .string t] 39 :: netT bn s1 :: refT bx r1 :: L)) ∧ Hid (PlayI s1 r1 (n + i))) (fun v19 _ => 520 - (intOf v19).toNat)
  case atStart => exact ⟨0, s, r, rfl, by omega, hz1, hI⟩
  case round =>
    clear hz1 hI
    obtain ⟨i, s1, r1, rfl, hi, hz, hI⟩ := hrel
    obtain ⟨hbx, -⟩ := Zoo.box hz.out 0 rfl
    have c3 : wr.cell? ⟨B, 3, none⟩ = some (.int .i64 k) := box_cell hbx 3
    have c4 : wr.cell? ⟨B, 4, none⟩ = some (.string t) := box_cell hbx 4
    by_cases hlt : (i : Int) < k
    · by_cases h5 : i < 520
      · have h5' : (i : Int) < 520 := by omega
        have hc := send_zoo hz.out 1 bn s1 rfl (by have := hI.out.ok.now; omega) (by have := hI.out.ok.last; omega) hI.out.ok.len 3 4 t 7
        have hrf := fun (W1 : World) (s2 : Ns) (hz : Zoo W0 W1 (boxT B #[.int .i64 8, .int .i64 x, .int .i64 y, .int .i64 k, .string t] 39 :: netT bn s2 :: refT bx r1 :: L)) => refSend_zoo hz 2 bx r1 rfl (by rw [hI.out.al.now]; have := hI.out.ok.now; omega) (by rw [hI.out.al.last]; have := hI.out.ok.last; omega) hI.out.len 3 4 t 7
        obtain ⟨e1, e2, -⟩ := hI.out.al.send 3 4 t 7
        have hI2 := hI.out.send 3 4 t 7
        rw [e1, e2] at hrf
        generalize (sendR r1 3 4 t 7).2.2 = r2 at hI2 hrf
        generalize (sendS s1 3 4 t 7).1 = i1 at hc hrf
        generalize (sendS s1 3 4 t 7).2.1 = k1 at hc hrf
        generalize (sendS s1 3 4 t 7).2.2 = s2 at hc hI2
        replace hc := Lib.hid hc
        replace hrf := Lib.hid hrf
        replace hI2 := Lib.hid hI2
        clear hz hI e1 e2 hbx
        go_wp2_with fail
        refine hc.out.mono ?_
        rintro e w2 ⟨rfl, hz2⟩
        obtain ⟨hbx, -⟩ := Zoo.box hz2 0 rfl
        have c4 : w2.cell? ⟨B, 4, none⟩ = some (.string t) := box_cell hbx 4
        have hc2 := Lib.hid (hrf.out w2 s2 hz2)
        clear hc hz2 hbx hrf
        go_wp2_with fail
        refine hc2.out.mono ?_
        rintro e w3 ⟨rfl, hz3⟩
        have hz4 : Hid (Zoo W0 w3 (boxT B #[.int .i64 8, .int .i64 x, .int .i64 y, .int .i64 k, .string t] 39 :: netT bn s2 :: refT bx r2 :: L)) := Lib.hid hz3
        clear hc2 hz3
        have q1 : (i1 != i1) = false := by simp
        have q2 : (k1 != k1) = false := by simp
        go_wp2_with fail
        go_roundw
        case rel => exact ⟨i + 1, s2, r2, by go_num, by omega, hz4, hI2⟩
        case measure => simp [intOf] <;> omega
      · have h5' : (520 : Int) ≤ (i : Int) := by omega
        have hz4 : Hid (Zoo W0 wr (netT bn s1 :: refT bx r1 :: L)) := Lib.hid (Zoo.tail hz.out)
        have hI2 := Lib.hid (hI.out.more (by omega : n + i ≤ n + 600))
        clear hz hI hbx
        go_wp2_with fail
        go_ret
        exact ⟨rfl, _, _, hz4, hI2⟩
    · have hge : k ≤ (i : Int) := by omega
      have hz4 : Hid (Zoo W0 wr (netT bn s1 :: refT bx r1 :: L)) := Lib.hid (Zoo.tail hz.out)
      have hI2 := Lib.hid (hI.out.more (by omega : n + i ≤ n + 600))
      clear hz hI hbx
      go_wp2_with fail
      go_ret
      exact ⟨rfl, _, _, hz4, hI2⟩
set_option maxRecDepth 100000 in
set_option maxHeartbeats 8000000 in
theorem act_any {W0 W : World} {L : List Th} (bn bx : Nat) (s : Ns) (r : Rs) (n : Nat) (hn : n ≤ 500000) (hI : PlayI s r n) (kd x y k : Int) (t : ByteArray) (hz : Zoo W0 W (netT bn s :: refT bx r :: L)) :
    Calls Try.prog 16 #[.pointer (some ⟨bn, 0, none⟩), .pointer (some ⟨bx, 0, none⟩), .agg #[.int .i64 kd, .int .i64 x, .int .i64 y, .int .i64 k, .string t]] W (ActRet W0 L bn bx (n + 600)) := by
  by_cases h0 : kd = 0
  · subst h0; exact act_tick bn bx s r n hn hI x y k t hz
  by_cases h1 : kd = 1
  · subst h1; exact act_send bn bx s r n hn hI x y k t hz
  by_cases h2 : kd = 2
  · subst h2; exact act_next bn bx s r n hI x y k t hz
  by_cases h3 : kd = 3
  · subst h3; exact act_lose bn bx s r n hI x y k t hz
  by_cases h4 : kd = 4
  · subst h4; exact act_double bn bx s r n hn hI x y k t hz
  by_cases h5 : kd = 5
  · subst h5; exact act_late bn bx s r n hn hI x y k t hz
  by_cases h6 : kd = 6
  · exact act_cut6 bn bx s r n hn hI kd x y k t hz h6
  by_cases h7 : kd = 7
  · exact act_cut7 bn bx s r n hn hI kd x y k t hz h7
  by_cases h8 : kd = 8
  · subst h8; exact act_many bn bx s r n hn hI x y k t hz
  have hz1 := Lib.hid (hz.alloc (.cells #[.int .i64 kd, .int .i64 x, .int .i64 y, .int .i64 k, .string t] 39))
  have hI2 := Lib.hid (hI.more (by omega : n ≤ n + 600))
  have g0 : (kd == 0) = false := by simpa using h0
  have g1 : (kd == 1) = false := by simpa using h1
  have g2 : (kd == 2) = false := by simpa using h2
  have g3 : (kd == 3) = false := by simpa using h3
  have g4 : (kd == 4) = false := by simpa using h4
  have g5 : (kd == 5) = false := by simpa using h5
  have g6 : (kd == 6) = false := by simpa using h6
  have g7 : (kd == 7) = false := by simpa using h7
  have g8 : (kd == 8) = false := by simpa using h8
  clear hz hI h0 h1 h2 h3 h4 h5 h6 h7 h8
  go_enter Try.func16, Try.ntmps16
  go_wp2_with fail
  go_ret
  exact ⟨rfl, _, _, hz1, hI2⟩
end Go.Proofs.Ytjopbglimjhefaa
