/- The law FlagLists: walked. -/
import Derived.Test.YtfglfoapgpghkaaDoorFdS
namespace Go.Proofs.YtfglfoapgpghkaaDoor
open Go.RowKit

theorem texts_of (ss : List ByteArray) : (ss.map (·.data.toList)).map encStr = strCells ss := by
  rw [List.map_map]; rfl
theorem tot_of (ss : List ByteArray) : tot (ss.map (·.data.toList)) = (catB ss).length + ss.length := by
  simp [tot, catB, List.flatMap_def]
theorem parseSet_len (s : List UInt8) : (parseSet s).length ≤ 16 := by
  have hm : ∀ l, (makeSet l).length ≤ 16 := fun l => by
    by_cases h : makeCode l = 0
    · obtain ⟨cs, h1, h2, h3⟩ := set_made h; rw [h2]; exact h3
    · rw [set_empty h]; simp
  rw [parseSet]
  split
  · simp
  · exact hm _
set_option maxRecDepth 100000 in
set_option maxHeartbeats 2000000 in
theorem flagLists_any (v : Value) (ss : List ByteArray) (s : ByteArray) (hs : s.size ≤ 1048576) (w : World) (hr : Rd w v ss.length (strCells ss)) (ht : (catB ss).length + ss.length ≤ 1048576) (hll : ss.length ≤ 1048576) (hmx : ∃ m, w.cell? ⟨0, 0, none⟩ = some (.int .i64 m)) :
    Calls Tryd.prog 3 #[v, .string s] w fun e w' => e = .returned (.bool true) ∧ Below w.heap.size w w' := by
  obtain ⟨m, hm⟩ := hmx
  have h0 : 0 < w.heap.size := by
    unfold World.cell? at hm
    rcases Nat.eq_zero_or_pos w.heap.size with h | h
    · have : w.heap[0]? = none := Array.getElem?_eq_none (by omega)
      simp [this] at hm
    · exact h
  obtain ⟨l, hl⟩ : ∃ l, l = ss.map (·.data.toList) := ⟨_, rfl⟩
  have hr0 : Hid (Rd w v l.length (l.map encStr)) := Lib.hid (by rw [hl, texts_of, List.length_map]; exact hr)
  have htt : tot l ≤ 1048576 := by rw [hl, tot_of]; exact ht
  have hlen : l.length ≤ 1048576 := by rw [hl, List.length_map]; exact hll
  clear hr ht hll hl
  have hpar := Lib.hid (parse_any s hs m w hm h0)
  have hjl : Hid ((Lib.join l [32]).length ≤ 140737488355328) := Lib.hid (Nat.le_trans (join_len l) (by omega))
  replace hm := Lib.hid hm
  go_enter Tryd.func3, Tryd.ntmps3
  go_wp2_with fail
  refine hpar.out.mono ?_
  rintro e w1 ⟨v1, rfl, r1, b1⟩
  clear hpar
  go_wp2_with fail
  refine (refParse_any s hs w1).mono ?_
  rintro e w2 ⟨v2, rfl, r2, b2⟩
  have b2' := Lib.hid (b1.out.trans (b2.out.mono b1.out.size))
  have r12 := Lib.hid (r1.out.below b2.out)
  have hq1 : ((parseEnd s.data.toList : Int) == (parseEnd s.data.toList : Int)) = true := by simp
  have hq2 : ((parseCode s.data.toList : Int) == (parseCode s.data.toList : Int)) = true := by simp
  have hpl := parseSet_len s.data.toList
  generalize parseEnd s.data.toList = E at hq1 ⊢
  generalize parseCode s.data.toList = C at hq2 ⊢
  generalize parseSet s.data.toList = S at r12 r2 hpl r1
  clear b1 b2 r1
  go_wp2_with fail
  refine (alive_any w2).mono ?_
  rintro e w3 ⟨rfl, b3⟩
  have b3' := Lib.hid (b2'.out.trans (b3.mono b2'.out.size))
  have r13 := Lib.hid (r12.out.below b3)
  have r23 := Lib.hid (r2.out.below b3)
  have hr3 := Lib.hid (hr0.out.below b3'.out)
  clear b3 b2' r12 r2
  go_wp2_with fail
  refine (print_any v l w3 hr3.out (by omega) hjl.out).mono ?_
  rintro e w4 ⟨p4, rfl, hp4, b4⟩
  have b4' := Lib.hid (b3'.out.trans (b4.mono b3'.out.size))
  have r14 := Lib.hid (r13.out.below b4)
  have r24 := Lib.hid (r23.out.below b4)
  have hr4 := Lib.hid (hr3.out.below b4)
  clear b4 b3' r13 r23 hr3
  go_wp2_with fail
  refine (refPrint_any v l w4 hr4.out htt).mono ?_
  rintro e w5 ⟨p5, rfl, hp5, b5⟩
  have b5' := Lib.hid (b4'.out.trans (b5.mono b4'.out.size))
  have r15 := Lib.hid (r14.out.below b5)
  have r25 := Lib.hid (r24.out.below b5)
  have hq3 : (p4.toList == p5.toList) = true := by rw [eq_str, hp4.out, hp5.out]; simp
  clear b5 b4' r14 r24 hr4 hp4 hp5
  go_wp2_with fail
  refine (same_any v1 v2 S S w5 r15.out r25.out (by omega)).mono ?_
  rintro e w6 ⟨rfl, b6⟩
  rw [show decide (S = S) = true from by simp]
  have b6' := Lib.hid (b5'.out.trans (b6.mono b5'.out.size))
  clear b6 b5' r15 r25
  go_wp2_with fail
  go_ret
  exact ⟨rfl, b6'.out⟩
end Go.Proofs.YtfglfoapgpghkaaDoor
