/- The law FlagBack: walked. -/
import Derived.Test.YtfglfoapgpghkaaDoorFdU
namespace Go.Proofs.YtfglfoapgpghkaaDoor
open Go.RowKit

theorem atom_all {f : List UInt8} (h : keyB f = true) : ∀ b ∈ f, atomB b.toNat = true := by
  intro b hb
  rw [keyB, Bool.and_eq_true, allS, Bool.and_eq_true, allB, List.all_eq_true] at h
  exact h.1.1 b hb
theorem kept_bytes {f : List UInt8} (h : canonL f = some f) : (41 : UInt8) ∉ f ∧ (32 : UInt8) ∉ f := by
  unfold canonL at h
  cases hf : sysL.find? (fun g => upL g == upL f) with
  | some g =>
    rw [hf] at h
    have : g = f := Option.some.inj h
    subst this
    have key : ∀ f ∈ sysL, (41 : UInt8) ∉ f ∧ (32 : UInt8) ∉ f := by decide +kernel
    exact key g (sys_find hf)
  | none =>
    rw [hf] at h
    by_cases hk : keyB f = true
    · have ha := atom_all hk
      refine ⟨fun hm => ?_, fun hm => ?_⟩
      · have h1 := ha _ hm
        have h2 : atomB ((41 : UInt8).toNat) = false := by decide +kernel
        rw [h2] at h1; cases h1
      · have h1 := ha _ hm
        have h2 : atomB ((32 : UInt8).toNat) = false := by decide +kernel
        rw [h2] at h1; cases h1
    · simp only [hk] at h; cases h
theorem tail_no (c : UInt8) (hc : c ≠ 32) : ∀ r : List (List UInt8), (∀ f ∈ r, c ∉ f) → c ∉ Lib.joinTail [32] r
  | [], _ => by simp [Lib.joinTail]
  | x :: r, h => by
    have e : Lib.joinTail [32] (x :: r) = 32 :: (x ++ Lib.joinTail [32] r) := by simp [Lib.joinTail]
    rw [e]
    intro hm
    rcases List.mem_cons.1 hm with hm | hm
    · exact hc hm
    · rcases List.mem_append.1 hm with hm | hm
      · exact h x (by simp) hm
      · exact tail_no c hc r (fun f hf => h f (by simp [hf])) hm
theorem join_no (c : UInt8) (hc : c ≠ 32) (l : List (List UInt8)) (h : ∀ f ∈ l, c ∉ f) : c ∉ Lib.join l [32] := by
  cases l with
  | nil => simp [Lib.join_nil]
  | cons x r =>
    rw [Lib.join_cons]
    intro hm
    rcases List.mem_append.1 hm with hm | hm
    · exact h x (by simp) hm
    · exact tail_no c hc r (fun f hf => h f (by simp [hf])) hm
theorem spl_cons (c : UInt8) (x z : List UInt8) (h : c ∉ x) : spl c (x ++ c :: z) = x :: spl c z := by
  have hk : x.length < (x ++ c :: z).length := by simp
  have hi := idx_at c (x ++ c :: z) x.length hk (by rw [List.take_left]; exact h) (by simp)
  rw [(spl_cut c _ _ hi).1, List.take_left]
  congr 2
  rw [show x ++ c :: z = (x ++ [c]) ++ z by simp]
  exact List.drop_left' (by simp)
theorem spl_join : ∀ (r : List (List UInt8)) (x : List UInt8), (∀ f ∈ x :: r, (32 : UInt8) ∉ f) → spl 32 (x ++ Lib.joinTail [32] r) = x :: r
  | [], x, h => by
    have e : Lib.joinTail [32] [] = [] := rfl
    rw [e, List.append_nil, (spl_none 32 x (idx_none 32 x (h x (by simp)))).1]
  | y :: r, x, h => by
    have e : Lib.joinTail [32] (y :: r) = 32 :: (y ++ Lib.joinTail [32] r) := by simp [Lib.joinTail]
    rw [e, spl_cons 32 x _ (h x (by simp)), spl_join r y (fun f hf => h f (List.mem_cons_of_mem _ hf))]
theorem right_make {l : List (List UInt8)} (h : rightB l = true) : makeCode l = 0 ∧ makeSet l = l := by
  obtain ⟨h1, h2, h3⟩ := (rightB_iff l).1 h
  have hc : canonAll l = some l := by
    have := canonAll_fix (fun x => x) l h1
    rwa [List.map_id'] at this
  have hf : fset l = l := setS_of_sorted flt_sto l h3
  constructor
  · rw [makeCode, hc]; simp only [hf]; rw [if_neg (by omega)]
  · rw [makeSet, hc]; simp only [hf]; rw [if_neg (by omega)]
theorem right_tot {l : List (List UInt8)} (h : rightB l = true) : tot l ≤ 16 * 33 := by
  have h16 := right_16 h
  have hs := right_short h
  have key : ∀ l : List (List UInt8), (∀ c ∈ l, c.length ≤ 32) → tot l ≤ l.length * 33 := fun l => by
    induction l with
    | nil => intro _; simp [tot]
    | cons x r ih =>
      intro hh
      have h1 := hh x (by simp)
      have h2 := ih (fun c hc => hh c (by simp [hc]))
      rw [tot_cons, List.length_cons]; omega
  have := key l hs
  omega
theorem back_text {l : List (List UInt8)} (h : rightB l = true) (behind : List UInt8) :
    Lib.indexByte (printL l ++ behind) 41 = ((Lib.join l [32]).length + 1 : Nat) ∧ parseCode (printL l ++ behind) = 0 ∧ parseSet (printL l ++ behind) = l ∧ parseEnd (printL l ++ behind) = (printL l).length := by
  obtain ⟨h1, h2, h3⟩ := (rightB_iff l).1 h
  have hno : (41 : UInt8) ∉ Lib.join l [32] := join_no 41 (by decide) l (fun f hf => (kept_bytes (h1 f hf)).1)
  have e : printL l ++ behind = (40 :: Lib.join l [32]) ++ 41 :: behind := by rw [printL]; simp
  have hk : (40 :: Lib.join l [32]).length < (printL l ++ behind).length := by rw [e]; simp
  have hn0 : (41 : UInt8) ∉ 40 :: Lib.join l [32] := by
    intro hm
    rcases List.mem_cons.1 hm with hm | hm
    · exact absurd hm (by decide)
    · exact hno hm
  have hi := idx_at 41 (printL l ++ behind) (40 :: Lib.join l [32]).length hk (by rw [e, List.take_left]; exact hn0) (by simp only [e]; simp)
  rw [List.length_cons] at hi
  have hat : parseAt (printL l ++ behind) = some ((Lib.join l [32]).length + 1) := by
    rw [parseAt, hi, if_neg (by omega), if_pos (by rw [e]; rfl)]; rfl
  have hnm : nameL (printL l ++ behind) ((Lib.join l [32]).length + 1) = l := by
    rw [nameL]
    have et : (printL l ++ behind).take ((Lib.join l [32]).length + 1) = 40 :: Lib.join l [32] := by
      rw [e, show (Lib.join l [32]).length + 1 = (40 :: Lib.join l [32]).length from rfl, List.take_left]
    cases l with
    | nil => rw [if_pos (by rw [Lib.join_nil]; rfl)]
    | cons x r =>
      have hx : x ≠ [] := fun ex => by
        have hc := h1 x (by simp)
        rw [ex] at hc
        have : canonL [] = none := by kernel_rfl
        rw [this] at hc; cases hc
      have hxl : 0 < x.length := List.length_pos_iff.2 hx
      have hj : 0 < (Lib.join (x :: r) [32]).length := by rw [Lib.join_cons, List.length_append]; omega
      rw [if_neg (by omega), et, List.drop_one, List.tail_cons, Lib.join_cons]
      exact spl_join r x (fun f hf => (kept_bytes (h1 f hf)).2)
  obtain ⟨m1, m2⟩ := right_make h
  refine ⟨hi, ?_, ?_, ?_⟩
  · simp only [parseCode, hat]; rw [hnm, m1]
  · simp only [parseSet, hat]; rw [hnm, m2]
  · simp only [parseEnd, hat]; rw [hnm, if_pos m1, printL]; simp
set_option maxRecDepth 100000 in
set_option maxHeartbeats 2000000 in
theorem flagBack_any (v : Value) (l : List (List UInt8)) (s : ByteArray) (hz : s.size ≤ reachBytes) (w : World) (hr : Rd w v l.length (l.map encStr)) (hl : (l.length + 2) * 16 ≤ 140737488355328) (hs : Sized l) (hmx : ∃ m, w.cell? ⟨0, 0, none⟩ = some (.int .i64 m)) :
    Calls Tryd.prog 4 #[v, .string s] w fun e w' => e = .returned (.bool true) ∧ Below w.heap.size w w' := by
  obtain ⟨m, hm⟩ := hmx
  have h0 : 0 < w.heap.size := by
    unfold World.cell? at hm
    rcases Nat.eq_zero_or_pos w.heap.size with h | h
    · have : w.heap[0]? = none := Array.getElem?_eq_none (by omega)
      simp [this] at hm
    · exact h
  have hr0 := Lib.hid hr
  replace hs := Lib.hid hs
  have hm0 := Lib.hid hm
  unfold reachBytes at hz
  clear hr hm
  go_enter Tryd.func4, Tryd.ntmps4
  go_wp2_with fail
  refine (alive_any w).mono ?_
  rintro e w1 ⟨rfl, b1⟩
  replace b1 := Lib.hid b1
  go_wp2_with fail
  refine (right_any v l w1 (hr0.out.below b1.out) hl hs.out).mono ?_
  rintro e w2 ⟨rfl, b2⟩
  have b2' := Lib.hid (b1.out.trans (b2.out.mono b1.out.size))
  clear b1 b2
  cases hR : rightB l
  · replace hR := Lib.hid hR
    go_wp2_with fail
    refine (alive_any w2).mono ?_
    rintro e w3 ⟨rfl, b3⟩
    have b3' := Lib.hid (b2'.out.trans (b3.mono b2'.out.size))
    go_wp2_with fail
    go_ret
    exact ⟨rfl, b3'.out⟩
  · have htot := right_tot hR
    have hjl := join_len l
    have hl16 := right_16 hR
    have hbk := Lib.hid (back_text hR s.data.toList)
    replace hR := Lib.hid hR
    go_wp2_with fail
    refine (print_any v l w2 (hr0.out.below b2'.out) (by omega) (by omega)).mono ?_
    rintro e w3 ⟨p, rfl, hp, b3⟩
    have b3' := Lib.hid (b2'.out.trans (b3.mono b2'.out.size))
    have hps : p.size ≤ 600 := by rw [size_len, hp.out, printL]; simp; omega
    have hcell : w3.cell? ⟨0, 0, none⟩ = some (.int .i64 m) := (b3'.out.cell (p := ⟨0, 0, none⟩) h0).trans hm0.out
    have hz3 : 0 < w3.heap.size := Nat.lt_of_lt_of_le h0 b3'.out.size
    have hpar : Hid (Calls Tryd.prog 5 #[.string (p ++ s)] w3 (ParseRet (printL l ++ s.data.toList) w3)) := Lib.hid (by
      have hap : (p ++ s).data.toList = printL l ++ s.data.toList := by rw [toList_app, hp.out]
      have h := parse_near (p ++ s) (by rw [ByteArray.size_append]; omega) (by rw [hap, hbk.out.1]; omega) m w3 hcell hz3
      rwa [hap] at h)
    have hpl : Hid (((parseEnd (printL l ++ s.data.toList) : Int) == (p.size : Int)) = true) := Lib.hid (by
      rw [hbk.out.2.2.2, beq_iff_eq, size_len, hp.out])
    have hbk1 := Lib.hid hbk.out.2.1
    have hbk2 := Lib.hid hbk.out.2.2.1
    clear b3 b2' hbk hcell hz3
    go_wp2_with fail
    refine hpar.out.mono ?_
    rintro e w4 ⟨v4, rfl, r4, b4⟩
    have b4' := Lib.hid (b3'.out.trans (b4.out.mono b3'.out.size))
    have hq := hpl.out
    rw [hbk1.out]
    rw [hbk2.out] at r4
    generalize parseEnd (printL l ++ s.data.toList) = E at hq ⊢
    clear hpar hbk1 hbk2 hpl b4 b3'
    go_wp2_with fail
    refine (same_any v4 v l l w4 r4.out (hr0.out.below b4'.out) (by omega)).mono ?_
    rintro e w5 ⟨rfl, b5⟩
    rw [show decide (l = l) = true from by simp]
    have b5' := Lib.hid (b4'.out.trans (b5.mono b4'.out.size))
    clear b5 b4' r4
    go_wp2_with fail
    go_ret
    exact ⟨rfl, b5'.out⟩
end Go.Proofs.YtfglfoapgpghkaaDoor
