/- Late, Double, Cut: walked. -/
import Derived.Test.YtjopbglimjhefaaNeM
namespace Go.Proofs.Ytjopbglimjhefaa
open Go.RowKit Go.Maps Go.WideMaps

def Pk.at_ (p : Pk) (x : Int) : Pk := ⟨p.id, p.src, p.dst, p.data, x⟩
theorem PRow.due {W : World} {g : Nat} {l : List Pk} {rest : List Value} (h : PRow W g l rest) (j : Nat) (hj : j < l.length) (x : Int) : PRow (W.setCell ⟨g, j * 5 + 4, none⟩ (.int .i64 x)) g (l.set j ((pat l j).at_ x)) rest := by
  have h0 : W.heap[g]? = _ := h
  have hlen : (rowCells l).length = l.length * 5 := rowCells_len l
  have hl2 : (rowCells (l.set j ((pat l j).at_ x))).length = l.length * 5 := by rw [rowCells_len, List.length_set]
  have e : (rowCells l ++ rest).set (j * 5 + 4) (.int .i64 x) = rowCells (l.set j ((pat l j).at_ x)) ++ rest := by
    apply List.ext_getElem?
    intro i
    simp only [List.getElem?_set, List.length_append, hlen]
    by_cases hi : i < l.length * 5
    · obtain ⟨m, r, hr, rfl⟩ : ∃ m r, r < 5 ∧ i = m * 5 + r := ⟨i / 5, i % 5, Nat.mod_lt _ (by decide), by omega⟩
      rw [List.getElem?_append_left (by omega), List.getElem?_append_left (by omega), rowCells_get l m (by omega) r hr, rowCells_get (l.set j ((pat l j).at_ x)) m (by rw [List.length_set]; omega) r hr]
      by_cases hm : j = m
      · subst hm
        rw [List.getElem_set_self, pat_lt hj]
        have h5 : r = 0 ∨ r = 1 ∨ r = 2 ∨ r = 3 ∨ r = 4 := by omega
        rcases h5 with rfl | rfl | rfl | rfl | rfl
        all_goals simp [pkCells, Pk.at_]
        all_goals omega
      · rw [List.getElem_set_ne hm]
        rw [if_neg (by omega)]
    · rw [List.getElem?_append_right (by omega), List.getElem?_append_right (by omega), hlen, hl2]
      rw [if_neg (by omega)]
  unfold PRow
  rw [← e]
  exact cells_set h0 _ _
/-- what Late does -/
def LateRet (W : World) (b m : Nat) (v : Value) (l : List Pk) (now last N : Nat) (C : Int → Int → Bool) (id d : Int) (e : Ending) (w' : World) : Prop :=
  ((∀ q ∈ l, q.id ≠ id) ∧ e = .returned (.int .i64 6) ∧ Hid (Below W.heap.size W w')) ∨
  ((∃ i, i < l.length ∧ (pat l i).id = id) ∧ ¬ (0 ≤ d ∧ d ≤ 100) ∧ e = .returned (.int .i64 1) ∧ Hid (Below W.heap.size W w')) ∨
  ((0 ≤ d ∧ d ≤ 100) ∧ ∃ (i : Nat) (l' : List Pk), i < l.length ∧ (pat l i).id = id ∧ e = .returned (.int .i64 0) ∧ Hid (NetAt w' b m v l' now last N C ∧ Heap l' l'.length) ∧ Hid (l'.Perm (l.set i ((pat l i).at_ (now + d)))) ∧ Hid (NSame W b m v w'))
set_option maxRecDepth 100000 in
set_option maxHeartbeats 4000000 in
theorem late_any (b m : Nat) (v : Value) (l : List Pk) (now last N : Nat) (C : Int → Int → Bool) (id d : Int) (hnow : now < 1000000) (hlen : l.length ≤ 512) (W : World) (h : NetAt W b m v l now last N C) (hh : Heap l l.length) :
    Calls Try.prog 21 #[.pointer (some ⟨b, 0, none⟩), .int .i64 id, .int .i64 d] W (LateRet W b m v l now last N C id d) := by
  have hat := Lib.hid (at_any b m v l now last N C id (by omega) W h)
  have hmiss := Lib.hid (fun W => missing_any b W)
  replace h := Lib.hid h
  go_enter Try.func21, Try.ntmps21
  go_wp2_with fail
  refine hat.out.mono ?_
  rintro e w1 ⟨r, rfl, hr, hb⟩
  clear hat
  rcases hr.out with ⟨rfl, hno⟩ | ⟨i, rfl, hi, hid⟩
  · replace hno := Lib.hid hno
    clear hr
    go_wp2_with fail
    refine (hmiss.out _).mono ?_
    rintro e w2 ⟨rfl, rfl⟩
    go_wp2_with fail
    go_ret
    exact .inl ⟨hno.out, rfl, hb⟩
  · have hge : (0 : Int) ≤ (i : Int) := by omega
    have hfound := Lib.hid (show ∃ i, i < l.length ∧ (pat l i).id = id from ⟨i, hi, hid⟩)
    replace hid := Lib.hid hid
    clear hr
    by_cases hd0 : d < 0
    · go_wp2_with fail
      go_ret
      exact .inr (.inl ⟨hfound.out, by omega, rfl, hb⟩)
    · by_cases hd1 : 100 < d
      · go_wp2_with fail
        go_ret
        exact .inr (.inl ⟨hfound.out, by omega, rfl, hb⟩)
      · have h1 := h.out.below hb.out
        obtain ⟨g, cap, rest, rfl, hbg, -, hrow, -, hback⟩ := h1.fl.row (by omega)
        have c0 := h1.fl.1
        have c1 := h1.now
        obtain ⟨-, -, -, -, a4⟩ := hrow.cells i hi
        have fr := hrow.free (i * 5 + 4)
        have hil : (i : Int) < (l.length : Int) := by omega
        have hS1 := Lib.hid (NSame.of_below hb.out b m (.slice (some ⟨g, 0, none⟩) l.length cap))
        replace h1 := Lib.hid h1
        replace hrow := Lib.hid hrow
        replace hback := Lib.hid hback
        replace h1 := Lib.hid h1
        go_wp2_with fail
        go_still_tail 13, (by kernel_rfl)
        change wpList _ _ _ _ _ w1.drew
        have hk2 : Kept1 w1 g (w1.setCell ⟨g, i * 5 + 4, none⟩ (.int .i64 ((now : Int) + d))).drew := ((Kept1.refl w1 g).set _ _).drewN 1
        have hr2 : PRow (w1.setCell ⟨g, i * 5 + 4, none⟩ (.int .i64 ((now : Int) + d))).drew g (l.set i ((pat l i).at_ (now + d))) rest := (hrow.out.due i hi _).drew
        have hb2 := hback.out _ _ (by rw [List.length_set]) hr2 hk2
        have hcall := heapFix_any b i (.slice (some ⟨g, 0, none⟩) l.length cap) (l.set i ((pat l i).at_ (now + d))) (by rw [List.length_set]; exact hi) (by rw [List.length_set]; omega) _ hb2.1 (by rw [List.length_set]; exact Exc.turn hh hi _)
        have hn2 := Lib.hid (h1.out.out.flown hb2.1 hb2.2 (Later.refl _ _))
        have hS2 := Lib.hid (hS1.out.trans (Later.refl _ _) (NSame.of_f hb2.2))
        replace hcall := Lib.hid hcall
        clear hb2 hr2 hk2 hback hrow hS1
        have a4 : w1.drew.cell? ⟨g, i * 5 + 4, none⟩ = some (.int .i64 (pat l i).due) := a4
        have fr : w1.drew.frozen? ⟨g, i * 5 + 4, none⟩ = false := fr
        go_wp2_with fail
        refine hcall.out.mono ?_
        rintro e w3 ⟨rfl, l', h3, h4, h5⟩
        have hn3 := Lib.hid (And.intro (hn2.out.flown h3.out h5.out (Later.refl _ _)) h4.out.2)
        have hP := Lib.hid h4.out.1
        have hS := Lib.hid (hS2.out.trans (Later.refl _ _) (NSame.of_f h5.out))
        clear hcall hn2 hS2 h3 h4 h5
        go_wp2_with fail
        go_ret
        exact .inr (.inr ⟨by omega, i, l', hi, hid.out, rfl, hn3, hP, hS⟩)
/-- what Double does -/
def DoubleRet (W : World) (b m : Nat) (v : Value) (l : List Pk) (now last N : Nat) (C : Int → Int → Bool) (id d : Int) (e : Ending) (w' : World) : Prop :=
  ((∀ q ∈ l, q.id ≠ id) ∧ e = .returned (.tuple #[.int .i64 0, .int .i64 6]) ∧ Hid (Below W.heap.size W w')) ∨
  ∃ i, i < l.length ∧ (pat l i).id = id ∧ SendRet W b m v l now last N C (pat l i).src (pat l i).dst (pat l i).data d e w'
theorem SendRet.lift {W W1 : World} {b m : Nat} {v : Value} {l : List Pk} {now last N : Nat} {C : Int → Int → Bool} {x y : Int} {s : ByteArray} {d : Int} {e : Ending} {w' : World} (hb : Below W.heap.size W W1) (h : SendRet W1 b m v l now last N C x y s d e w') : SendRet W b m v l now last N C x y s d e w' := by
  rcases h with ⟨h1, h2, h3⟩ | ⟨h1, h2, h3, h4⟩ | ⟨h1, h2, h3, v', l', h4, h5, h6⟩
  · exact .inl ⟨h1, h2, Lib.hid (hb.trans (h3.out.mono hb.size))⟩
  · exact .inr (.inl ⟨h1, h2, h3, Lib.hid (hb.trans (h4.out.mono hb.size))⟩)
  · exact .inr (.inr ⟨h1, h2, h3, v', l', h4, h5, Lib.hid ⟨(NSame.of_below hb b m v).trans (Later.refl _ _) h6.out.1, (Later.refl W v).trans h6.out.2 hb.size⟩⟩)
theorem SendRet.two {W : World} {b m : Nat} {v : Value} {l : List Pk} {now last N : Nat} {C : Int → Int → Bool} {x y : Int} {s : ByteArray} {d : Int} {e : Ending} {w' : World} (h : SendRet W b m v l now last N C x y s d e w') : ∃ i k : Int, e = .returned (.tuple #[.int .i64 i, .int .i64 k]) := by
  rcases h with ⟨_, h2, _⟩ | ⟨_, _, h3, _⟩ | ⟨_, _, h3, _⟩
  · exact ⟨_, _, h2⟩
  · exact ⟨_, _, h3⟩
  · exact ⟨_, _, h3⟩
set_option maxRecDepth 100000 in
set_option maxHeartbeats 4000000 in
theorem double_any (b m : Nat) (v : Value) (l : List Pk) (now last N : Nat) (C : Int → Int → Bool) (id d : Int) (hnow : now < 1000000) (hlast : last < 1000000) (hlen : l.length ≤ 512) (W : World) (h : NetAt W b m v l now last N C) (hh : Heap l l.length) :
    Calls Try.prog 19 #[.pointer (some ⟨b, 0, none⟩), .int .i64 id, .int .i64 d] W (DoubleRet W b m v l now last N C id d) := by
  have hat := Lib.hid (at_any b m v l now last N C id (by omega) W h)
  have hmiss := Lib.hid (fun W => missing_any b W)
  replace h := Lib.hid h
  go_enter Try.func19, Try.ntmps19
  go_wp2_with fail
  refine hat.out.mono ?_
  rintro e w1 ⟨r, rfl, hr, hb⟩
  clear hat
  rcases hr.out with ⟨rfl, hno⟩ | ⟨i, rfl, hi, hid⟩
  · replace hno := Lib.hid hno
    clear hr
    go_wp2_with fail
    refine (hmiss.out _).mono ?_
    rintro e w2 ⟨rfl, rfl⟩
    go_wp2_with fail
    go_ret2
    exact .inl ⟨hno.out, rfl, hb⟩
  · have hge : (0 : Int) ≤ (i : Int) := by omega
    replace hid := Lib.hid hid
    clear hr
    have h1 := h.out.below hb.out
    obtain ⟨g, cap, rest, rfl, hbg, -, hrow, -, -⟩ := h1.fl.row (by omega)
    have c0 := h1.fl.1
    obtain ⟨a0, a1, a2, a3, a4⟩ := hrow.cells i hi
    have hil : (i : Int) < (l.length : Int) := by omega
    have hba : Below w1.heap.size w1 (w1.alloc (.cells (pkArr (pat l i)) 30)) := (Below.refl _ w1).alloc (Nat.le_refl _) _
    have h2 := h1.below hba
    have hcall := Lib.hid (send_any b m (.slice (some ⟨g, 0, none⟩) l.length cap) l now last N C (pat l i).src (pat l i).dst (pat l i).data d hnow hlast _ h2 hh hlen)
    have hB := Lib.hid (hb.out.trans (hba.mono hb.out.size))
    have hbl1 := h1.fl.lt
    replace h1 := Lib.hid h1
    clear hrow h2 hba
    unfold pkArr at hcall hB
    go_wp2_with fail
    refine hcall.out.mono ?_
    intro e w3 h3
    obtain ⟨x1, x2, rfl⟩ := h3.two
    have h4 := Lib.hid (SendRet.lift hB.out h3)
    clear hcall h3
    go_wp2_with fail
    go_ret2
    exact .inr ⟨i, hi, hid.out, h4.out⟩
/-- what Cut does -/
def CutRet (W : World) (b m : Nat) (v : Value) (l : List Pk) (now last N : Nat) (C : Int → Int → Bool) (x y : Int) (c : Bool) (e : Ending) (w' : World) : Prop :=
  (linkB x y = false ∧ e = .returned (.int .i64 1) ∧ Hid (Below W.heap.size W w')) ∨
  (linkB x y = true ∧ e = .returned (.int .i64 0) ∧ Hid (NetAt w' b m v l now last (N + 1) (setC C (lo x y) (hi x y) c)) ∧ Hid (NSame W b m v w'))
end Go.Proofs.Ytjopbglimjhefaa
