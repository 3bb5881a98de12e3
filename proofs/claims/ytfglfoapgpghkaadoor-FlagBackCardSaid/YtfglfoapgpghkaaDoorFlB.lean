/- 'set' of the layer flag: a list is copied, sorted, and each kept once: the sorted set of its texts. -/
import Derived.Test.YtfglfoapgpghkaaDoorFlA
namespace Go.Proofs.YtfglfoapgpghkaaDoor
open Go.RowKit Go.Lib Go.Sort

/-- v is a slice of the call's own (from block B on), free to be written, that holds these texts -/
def HoldsSl (B : Nat) (w : World) (v : Value) (l : List (List UInt8)) : Prop := ∃ ao cap, v = .slice ao l.length cap ∧ (l = [] ∨ ∃ g, ao = some ⟨g, 0, none⟩ ∧ B ≤ g ∧ g < w.heap.size ∧ l.length ≤ cap ∧ Holds encStr w g 0 l.toArray)
theorem HoldsSl.rd {B : Nat} {w : World} {v : Value} {l : List (List UInt8)} (h : HoldsSl B w v l) : Rd w v l.length (l.map encStr) := by
  obtain ⟨ao, cap, rfl, rfl | ⟨g, rfl, hB, hg, hc, hh⟩⟩ := h
  · exact ⟨ao, cap, rfl, .inl rfl⟩
  · refine ⟨_, cap, rfl, .inr ⟨g, 0, rfl, hg, hc, fun i u hu => ?_⟩⟩
    have hi : i < l.length := by
      have := (List.getElem?_eq_some_iff.1 hu).1
      simpa using this
    have := (hh i (by simpa using hi)).1
    rw [this]
    rw [List.getElem?_map, List.getElem?_eq_getElem hi] at hu
    rw [get!_list, getElem!_pos l i hi]
    exact hu
theorem block_putRow {w : World} {blk off k : Nat} (d : Array (List UInt8)) (h : k ≠ blk) : (putRow encStr w blk off d).heap[k]? = w.heap[k]? := by
  unfold putRow mapBlock
  simp [Array.getElem?_modify, Ne.symm h]
theorem below_putRow {B : Nat} {w0 w : World} (h : Below B w0 w) (n blk off : Nat) (d : Array (List UInt8)) (hb : B ≤ blk) : Below B w0 (putRow encStr (Sort.ahead w n) blk off d) :=
  ⟨h.os, h.tape, h.output, by rw [size_putRow]; exact h.size, fun k hk => (block_putRow d (by omega)).trans (h.block k hk)⟩
theorem below_sortWorld {B : Nat} {w0 w : World} (h : Below B w0 w) (n blk off : Nat) (d : Array (List UInt8)) (os : Array Obj) (hb : B ≤ blk) (hw : B ≤ w0.heap.size) : Below B w0 (sortWorld encStr w blk off n d os) := by
  have h1 := below_putRow h n blk off d hb
  have h2 : Lays (putRow encStr (Sort.ahead w n) blk off d) (sortWorld encStr w blk off n d os) := ⟨os, rfl⟩
  exact h1.trans (h2.below.mono (Nat.le_trans hw h1.size))
theorem holds_left {w : World} {g : Nat} {a b : List (List UInt8)} (h : Holds encStr w g 0 (a ++ b).toArray) : Holds encStr w g 0 a.toArray := fun j hj => by
  have hj' : j < a.length := by simpa using hj
  have h1 := h j (by simp; omega)
  rw [get!_list, getElem!_pos (a ++ b) j (by simp; omega), List.getElem_append_left hj'] at h1
  rw [get!_list, getElem!_pos a j hj']
  exact h1
theorem one_encStr : OneCell encStr := fun _ => rfl
theorem flt_lt : ltOf fcmp = flt := rfl
theorem flt_swo : SWO (ltOf fcmp) := by
  rw [flt_lt]
  refine ⟨flt_sto.irr, flt_sto.trans, fun x y z h1 h2 => ?_⟩
  by_cases e : x = z
  · subst e; exact flt_sto.irr x
  · by_cases e1 : x = y
    · subst e1; exact h2
    · by_cases e2 : y = z
      · subst e2; exact h1
      · have h3 : flt y x = true := by
          rcases flt_sto.tot x y e1 with h | h
          · rw [h1] at h; cases h
          · exact h
        have h4 : flt z y = true := by
          rcases flt_sto.tot y z e2 with h | h
          · rw [h2] at h; cases h
          · exact h
        have h5 := flt_sto.trans _ _ _ h4 h3
        cases h6 : flt x z
        · rfl
        · have := flt_sto.trans _ _ _ h6 h5
          rw [flt_sto.irr] at this; cases this
theorem flt_tot (x y : List UInt8) (h1 : ltOf fcmp x y = false) (h2 : ltOf fcmp y x = false) : x = y := by
  rw [flt_lt] at h1 h2
  by_cases e : x = y
  · exact e
  · rcases flt_sto.tot x y e with h | h
    · rw [h1] at h; cases h
    · rw [h2] at h; cases h
theorem cmp_lays (blk off size : Nat) (w : World) : CmpLays1 Tryd.prog 33 #[] encStr fcmp blk off size w := fun m os dk _ x y => by
  refine (ahead_any x y _).mono fun e w' ⟨he, os', hw⟩ => ⟨he, 0, os', ?_⟩
  rw [hw]; rfl
def sortL (l : List (List UInt8)) : List (List UInt8) := l.mergeSort fun x y => !(ltOf fcmp) y x
theorem sortL_len (l : List (List UInt8)) : (sortL l).length = l.length := List.length_mergeSort _
theorem sortL_mem (l : List (List UInt8)) (x : List UInt8) : x ∈ sortL l ↔ x ∈ l := List.mem_mergeSort
theorem sortL_sorted (l : List (List UInt8)) : ∀ i j, i < j → j < (sortL l).length → flt (sortL l)[j]! (sortL l)[i]! = false := by
  have hp : (sortL l).Pairwise fun a b => (!(ltOf fcmp) b a) = true := List.pairwise_mergeSort (fun a b c h1 h2 => by
    simp only [Bool.not_eq_true'] at h1 h2 ⊢
    exact flt_swo.ntrans _ _ _ h2 h1) (fun a b => by
    rw [flt_lt]
    cases h1 : flt b a
    · rfl
    · cases h2 : flt a b
      · rfl
      · have := flt_sto.trans _ _ _ h1 h2
        rw [flt_sto.irr] at this; cases this) l
  intro i j hij hj
  have := List.pairwise_iff_getElem.1 hp i j (by omega) hj hij
  rw [getElem!_pos _ j hj, getElem!_pos _ i (by omega)]
  simpa [flt_lt] using this
theorem compact_sortL (l : List (List UInt8)) : compactUpTo (sortL l).toArray (sortL l).toArray.size = fset l := compact_setS flt_sto l (sortL l) (sortL_sorted l) (sortL_mem l)
def SetRet (l : List (List UInt8)) (w : World) (e : Ending) (w' : World) : Prop := ∃ v', e = .returned v' ∧ Hid (HoldsSl w.heap.size w' v' (fset l)) ∧ Hid (Below w.heap.size w w')
set_option maxHeartbeats 1000000 in
theorem set_any (v : Value) (l : List (List UInt8)) (w : World) (hr : Rd w v l.length (l.map encStr)) (hl : l.length * 16 ≤ 140737488355328) :
    Calls Tryd.prog 19 #[v] w (SetRet l w) := by
  have eg : ∀ args w, (callFunc 33 args).run Tryd.prog w = .ok (.enter 33 args) w := enters_of Tryd.func33 (by kernel_rfl) rfl
  obtain ⟨ao, cap, rfl, h0⟩ := hr
  have hempty : l = [] → Calls Tryd.prog 19 #[.slice ao l.length cap] w (SetRet l w) := by
    rintro rfl
    have hc : Calls Tryd.prog 31 #[.slice ao 0 cap] w fun e w' => ∃ ao' cap', e = .returned (.slice ao' 0 cap') ∧ Below w.heap.size w w' := by
      cases ao with
      | none => exact (Tryd.slices_Clone_string_nil 0 cap w).mono fun _ _ ⟨he, hw⟩ => ⟨none, 0, he, by rw [hw]; exact Below.refl _ _⟩
      | some a => exact (Tryd.slices_Clone_string_zero a cap w).mono fun _ _ ⟨v', he, ho, _, hb⟩ => by
                    rcases ho.2 with ⟨rfl, _⟩ | ⟨g, cap', cur, rfl, _⟩
                    · exact ⟨none, 0, he, hb⟩
                    · exact ⟨_, cap', he, hb⟩
    replace hc := Lib.hid hc
    go_enter Tryd.func19, Tryd.ntmps19
    go_wp2_with fail
    refine hc.out.mono ?_
    rintro e w1 ⟨ao', cap', rfl, b1⟩
    go_wp2_with fail
    refine (Tryd.slices_SortFunc_none (α := List UInt8) ao' cap' (.func (.func 33) #[] #[]) w1).mono ?_
    rintro e w2 ⟨rfl, rfl⟩
    go_wp2_with fail
    refine (Tryd.slices_Compact_string_empty ao' cap' _).mono ?_
    rintro e w3 ⟨rfl, rfl⟩
    go_wp2_with fail
    go_ret
    exact ⟨_, rfl, Lib.hid ⟨ao', cap', rfl, .inl rfl⟩, Lib.hid b1⟩
  rcases h0 with h0 | ⟨b, o, rfl, hb, _, hcell⟩
  · exact hempty (List.eq_nil_of_length_eq_zero h0)
  · by_cases hl0 : l = []
    · exact hempty hl0
    · clear hempty
      have hpos : 0 < l.length := by
        rcases Nat.eq_zero_or_pos l.length with h | h
        · exact absurd (List.eq_nil_of_length_eq_zero h) hl0
        · exact h
      have hc := Tryd.slices_Clone_string b o l.length cap (l.map mkB) w (by simp) hl (fun j hj => by
        have hj' : j < l.length := by simpa using hj
        rw [hcell j (encStr l[j]) (by simp [hj'])]
        simp [List.getD, hj', mkB, encStr])
      rw [show ((l.map mkB).take l.length).map Value.string = l.map encStr by
        rw [List.take_of_length_le (by simp), List.map_map]; rfl] at hc
      replace hc := Lib.hid hc
      clear hcell
      go_enter Tryd.func19, Tryd.ntmps19
      go_wp2_with fail
      refine hc.out.mono ?_
      rintro e w1 ⟨v1, rfl, ho, hnn, b1⟩
      obtain ⟨g, cap1, rfl, hg, hgl, hcap, hH⟩ : ∃ g cap1, v1 = .slice (some ⟨g, 0, none⟩) l.length cap1 ∧ w.heap.size ≤ g ∧ g < w1.heap.size ∧ l.length ≤ cap1 ∧ Holds encStr w1 g 0 l.toArray := by
        have hcs := fun g' h => World.ownsRow.cells ho (g := g') h
        rcases ho.2 with ⟨rfl, _⟩ | ⟨g, cap1, cur, rfl, hg, hcells, hcp, _⟩
        · exact absurd rfl hnn
        · refine ⟨g, cap1, rfl, hg, (Array.getElem?_eq_some_iff.1 hcells).1, hcp, fun j hj => ?_⟩
          have hj' : j < l.length := by simpa using hj
          refine ⟨?_, by simp only [World.frozen?, hcells]; simp⟩
          have := hcs g rfl j (encStr l[j]) (by simp [hj'])
          rw [get!_list, getElem!_pos l j hj']
          simpa [Addr.add_lit] using this
      clear hnn ho
      have hsort := Tryd.slices_SortFunc_total encStr one_encStr fcmp flt_swo 33 #[] g 0 cap1 l.toArray w1 eg (cmp_lays _ _ _ _) hH hgl (by simp; omega) flt_tot
      replace hsort := Lib.hid hsort
      replace hH := Lib.hid hH
      go_wp2_with fail
      refine hsort.out.mono ?_
      rintro e w2 ⟨rfl, n, os, hw2⟩
      have hH2 : Holds encStr w2 g 0 (sortL l).toArray := by
        rw [hw2]
        exact holds_sortWorld encStr w1 g 0 n l.toArray (sortL l).toArray os hgl hH.out (by simp [sortL_len])
      have hgl2 : g < w2.heap.size := by rw [hw2]; exact lt_sortWorld encStr w1 g 0 n _ os hgl
      have b2 : Below w.heap.size w w2 := by rw [hw2]; exact below_sortWorld b1 n g 0 _ os hg (Nat.le_refl _)
      have hcomp := Tryd.slices_Compact_string_arr g 0 cap1 (sortL l).toArray w2 hH2 (by simp [sortL_len]; omega) (by simp [sortL_len]; exact hcap)
      rw [compact_sortL] at hcomp
      rw [show (sortL l).toArray.size = l.length by simp [sortL_len]] at hcomp
      replace hcomp := Lib.hid hcomp
      replace b2 := Lib.hid b2
      replace hH2 := Lib.hid hH2
      clear hw2 hsort hH b1
      go_wp2_with fail
      refine hcomp.out.mono ?_
      rintro e w3 ⟨rfl, q, hw3⟩
      have hfl : (fset l).length ≤ l.length := setS_len flt l
      have hH3 : Holds encStr w3 g 0 (fset l).toArray := by
        rw [hw3]
        refine holds_left (b := List.replicate (l.length - (fset l).length) []) ?_
        exact holds_putRow encStr _ g 0 (sortL l).toArray _ hH2.out (by simp [sortL_len]; omega)
      have hgl3 : g < w3.heap.size := by rw [hw3, size_putRow]; exact hgl2
      have b3 : Below w.heap.size w w3 := by rw [hw3]; exact below_putRow b2.out q g 0 _ hg
      replace b3 := Lib.hid b3
      replace hH3 := Lib.hid hH3
      clear hw3
      go_wp2_with fail
      go_ret
      exact ⟨_, rfl, Lib.hid ⟨_, cap1, rfl, .inr ⟨g, rfl, hg, hgl3, by omega, hH3.out⟩⟩, b3⟩
end Go.Proofs.YtfglfoapgpghkaaDoor
