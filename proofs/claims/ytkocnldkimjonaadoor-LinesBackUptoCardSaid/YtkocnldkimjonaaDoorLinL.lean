/- The document's Hear, walked. -/
import Derived.Test.YtkocnldkimjonaaDoorLinK
namespace Go.Proofs.YtkocnldkimjonaaDoor
open Go.RowKit

/-- in the middle of Hear -/
structure HearW (w wr : World) (v : Value) (hs : List (Nat × List UInt8)) : Prop where
  out : OwnHeards wr (w.heap.size + 1) v hs
  res : wr.heap[w.heap.size]? = some (.cells #[.int .i64 0, .int .i64 0, .bool false] 29 (0, 0))
  below : Below w.heap.size w wr
theorem HearW.lt {w wr : World} {v : Value} {hs : List (Nat × List UInt8)} (h : HearW w wr v hs) : w.heap.size < wr.heap.size := (Array.getElem?_eq_some_iff.1 h.res).1
theorem HearW.later {w wr w' : World} {v : Value} {hs : List (Nat × List UInt8)} (h : HearW w wr v hs) (hb : Below wr.heap.size wr w') : HearW w w' v hs :=
  ⟨h.out.of_block (fun k hk => hb.block k (World.ownsRow.lt h.out k hk).2), (hb.block _ h.lt).trans h.res, h.below.trans (hb.mono h.below.size)⟩
theorem HearW.append {w wr wy w2 : World} {v v2 : Value} {hs hs2 : List (Nat × List UInt8)} (h : HearW w wr v hs) (hy : Below wr.heap.size wr wy) (hg : wy.grownBy w2 v.ownBlock) (ho : OwnHeards w2 (w.heap.size + 1) v2 hs2) : HearW w w2 v2 hs2 := by
  have h1 := h.later hy
  have hv : ∀ k, v.ownBlock = some k → w.heap.size + 1 ≤ k := fun k hk => (World.ownsRow.lt h.out k hk).1
  exact ⟨ho, (hg.block _ h1.lt (fun e => by have := hv _ e.symm; omega)).trans h1.res, h1.below.grown hg h1.below.size (fun k hk => by have := hv k hk; omega)⟩
/-- what Hear hands back -/
def HearRet (w : World) (r : FS × List (Nat × List UInt8)) (e : Ending) (w' : World) : Prop := ∃ v, e = .returned (.tuple #[v, .agg #[.int .i64 r.1.left, .int .i64 r.1.text.length, .bool r.1.deaf]]) ∧ OwnHeards w' w.heap.size v r.2 ∧ Below w.heap.size w w'
theorem hear_results (tmps : Array Value) (w : World) (n0 : Nat) (v : Value) (a b : Int) (d : Bool) (h2 : tmps[2]? = some v) (ht : tmps[3]? = some (.pointer (some ⟨n0, 0, none⟩))) (h0 : w.cell? ⟨n0, 0, none⟩ = some (.int .i64 a)) (h1 : w.cell? ⟨n0, 1, none⟩ = some (.int .i64 b)) (hd : w.cell? ⟨n0, 2, none⟩ = some (.bool d)) :
    (results Tryd.f11 tmps).run Tryd.prog w = .ok (.tuple #[v, .agg #[.int .i64 a, .int .i64 b, .bool d]]) w := by
  have hr : Tryd.f11.results = #[.tmp 2, .cell 3 29] := rfl
  unfold results
  rw [hr]
  simp [ht, h2, asAddr]
  go_simp
theorem byte_true {s : ByteArray} {k : Nat} (h : k < s.size) {c : UInt8} {m : Int} (e : s.data.toList.getD k 0 = c) (hm : m = c.toNat) : (((s[k]'h).toNat : Int) == m) = true := by
  rw [getD_at s k h] at e; rw [e, hm]; simp
theorem byte_false {s : ByteArray} {k : Nat} (h : k < s.size) {c : UInt8} {m : Int} (e : s.data.toList.getD k 0 ≠ c) (hm : m = c.toNat) : (((s[k]'h).toNat : Int) == m) = false := by
  rw [getD_at s k h] at e
  subst hm
  cases hx : (((s[k]'h).toNat : Int) == (c.toNat : Int))
  · rfl
  · exact absurd (byte_ext (eq_of_beq hx)) e
theorem HearW.cells {w wr : World} {v : Value} {hs : List (Nat × List UInt8)} (h : HearW w wr v hs) : (wr.cell? ⟨w.heap.size, 0, none⟩ = some (.int .i64 0) ∧ wr.cell? ⟨w.heap.size, 1, none⟩ = some (.int .i64 0) ∧ wr.cell? ⟨w.heap.size, 2, none⟩ = some (.bool false)) ∧ ∀ j, wr.frozen? ⟨w.heap.size, j, none⟩ = false := by
  have hc := h.res
  refine ⟨⟨?_, ?_, ?_⟩, fun j => ?_⟩
  · simp only [World.cell?, hc]; rfl
  · simp only [World.cell?, hc]; rfl
  · simp only [World.cell?, hc]; rfl
  · simp only [World.frozen?, hc]; simp
theorem hearRet_mk {w w' : World} {st : FS} {hs : List (Nat × List UInt8)} {v : Value} {a b : Int} {d : Bool} (ha : a = st.left) (hb : b = st.text.length) (hd : d = st.deaf) (ho : OwnHeards w' w.heap.size v hs) (hbel : Below w.heap.size w w') : HearRet w (st, hs) (.returned (.tuple #[v, .agg #[.int .i64 a, .int .i64 b, .bool d]])) w' := by
  subst ha hb hd
  exact ⟨v, rfl, ho, hbel⟩
set_option maxRecDepth 100000 in
set_option maxHeartbeats 4000000 in
theorem hear_any (w : World) (s : ByteArray) (hs : s.size ≤ 1048576) :
    Calls Tryd.prog 11 #[.string s] w (HearRet w (fin (feedGo fs0 s.data.toList).1, (feedGo fs0 s.data.toList).2)) := by
  go_enter Tryd.func11, Tryd.ntmps11
  go_wp2_with fail
  go_loopw [4, 5, 6, 7] (fun v vb vp vk wr => ∃ (k b p : Nat) (hl : List (Nat × List UInt8)) (st : FS), vk = .int .i64 k ∧ vb = .int .i64 b ∧ vp = .int .i64 p ∧ k ≤ s.size ∧ Hid (HearInv s.data.toList k b p hl st) ∧ Hid (HearW w wr v hl)) (fun _ _ _ vk _ => s.size - (intOf vk).toNat)
  case atStart => exact ⟨0, 0, 0, [], fs0, rfl, rfl, rfl, Nat.zero_le _, Lib.hid (HearInv.start _), Lib.hid ⟨World.ownsRow_nil _ _ _ _, heap_alloc_new _ _, below_alloc _ _⟩⟩
  case round =>
    obtain ⟨k, b, p, hl, st, rfl, rfl, rfl, hk, hin, hw⟩ := hrel
    have hbk := hin.out.le1
    have hbp := hin.out.le2
    have hnear := hin.out.near
    have hhl : hl.length ≤ 1048576 := by
      have h1 := feedGo_len (s.data.toList.take k) fs0
      rw [hin.out.go, List.length_take] at h1
      have h2 : hl.length ≤ min k s.data.toList.length := h1
      omega
    by_cases hlt : k < s.size
    · by_cases hpk : k < p
      · obtain ⟨st', hn⟩ := hin.out.inside (by rw [← size_len]; exact hlt) hpk
        replace hn := Lib.hid hn
        go_wp2_with fail
        go_roundw
        case rel => exact ⟨k + 1, b, p, hl, st', by go_num, rfl, rfl, by omega, hn, hw⟩
        case measure => simp [intOf]; omega
      · obtain ⟨S, hO⟩ := hin.out.outside (by rw [← size_len]; exact hlt) (by omega)
        have hend := hO.ends
        replace hO := Lib.hid hO
        have hpk' : p ≤ k := by omega
        clear hpk
        by_cases hn2 : (k : Int) + 1 - (p : Int) < 2
        · have hE : Hid (endsL S = false) := Lib.hid (by rw [hend, decide_eq_false (show ¬ p + 2 ≤ k + 1 by omega)]; rfl)
          clear hend
          by_cases hlong : 1000 ≤ k + 1 - p ∨ 8192 ≤ k + 1 - b
          · have hL := Lib.hid (hO.out.long hE.out hlong)
            have hsz0 := hw.out.lt
            have h1 : ¬ (1000 : Int) ≤ (k : Int) + 1 - (p : Int) := by omega
            have h2 : (8192 : Int) ≤ (k : Int) + 1 - (b : Int) := by omega
            all_goals
              clear hlong
              go_wp2_with (at_builtin; refine wpList_append_heard rfl (.tmp 105) (.tmp 107) rfl (w.heap.size + 1) u4 hl wr.heap.size 4 ⟨#[]⟩ [] (Lib.hid rfl) rfl rfl (hw.out.out.of_block fun k hk => Below.heap_alloc _ _ _ (World.ownsRow.lt hw.out.out k hk).2) (by go_simp) (by go_simp) (by omega) (by have := hw.out.below.size; have := hw.out.lt; simp; omega) ?_)
              intro v4 w4 ho4 hg4 hv4
              have hfin := hw.out.append (below_alloc _ _) hg4 ho4
              obtain ⟨⟨r0, r1, r2⟩, rf⟩ := hfin.cells
              have rf0 := rf 0
              have rf1 := rf 1
              have rf2 := rf 2
              replace hfin := Lib.hid hfin
              clear ho4 hg4 hv4 rf
              go_wp2_with fail
              refine bodyPost_ret (hear_results _ _ w.heap.size v4 0 0 true rfl rfl ?_ ?_ ?_) rfl ?_
              · go_simp
              · go_simp
              · go_simp
              · refine hearRet_mk (by rw [hL.out.2.1]; rfl) (by rw [hL.out.2.2.1]; rfl) hL.out.2.2.2.symm ?_ ?_
                · rw [hL.out.1]
                  refine (hfin.out.out.of_block fun k hk => ?_).low (Nat.le_succ _)
                  have := (World.ownsRow.lt hfin.out.out k hk).1
                  rw [Below.heap_setCell _ _ _ _ (by show k ≠ w.heap.size; omega), Below.heap_setCell _ _ _ _ (by show k ≠ w.heap.size; omega), Below.heap_setCell _ _ _ _ (by show k ≠ w.heap.size; omega)]
                · exact ((hfin.out.below.setCell (Nat.le_refl _) _).setCell (Nat.le_refl _) _).setCell (Nat.le_refl _) _
          · obtain ⟨st', hn⟩ := hO.out.none_ hE.out (by omega) (by omega)
            replace hn := Lib.hid hn
            have h1 : ¬ (1000 : Int) ≤ (k : Int) + 1 - (p : Int) := by omega
            have h2 : ¬ (8192 : Int) ≤ (k : Int) + 1 - (b : Int) := by omega
            clear hlong
            go_wp2_with fail
            go_roundw
            case rel => exact ⟨k + 1, b, p, hl, st', by go_num, rfl, rfl, by omega, hn, hw⟩
            case measure => simp [intOf]; omega
        · obtain ⟨j, rfl⟩ : ∃ j, k = j + 1 := ⟨k - 1, by omega⟩
          have hpj : p ≤ j := by omega
          have hj : j < s.size := by omega
          by_cases hb2 : s.data.toList.getD j 0 = 13 ∧ s.data.toList.getD (j + 1) 0 = 10
          · obtain ⟨h13, h10⟩ := hb2
            have t13 : ((s[j].toNat : Int) == 13) = true := byte_true hj h13 rfl
            have t10 : ((s[j + 1].toNat : Int) == 10) = true := byte_true hlt h10 rfl
            have hE : Hid (endsL S = true) := Lib.hid (by rw [hend, show j + 1 - 1 = j from rfl, h13, h10, decide_eq_true (show p + 2 ≤ j + 1 + 1 by omega)]; rfl)
            have hT : Hid ((s.extract b j).data.toList = (s.data.toList.drop b).take (j + 1 - 1 - b)) := Lib.hid (by rw [ext_list]; rfl)
            have hP : Hid ((s.extract p j).data.toList = (s.data.toList.drop p).take (j + 1 - 1 - p)) := Lib.hid (by rw [ext_list]; rfl)
            have hps : (s.extract p j).size ≤ 140737488351232 := by rw [ByteArray.size_extract]; omega
            clear hend h13 h10
            go_wp2_with fail
            refine (refAwaited_any _ hps wr).mono ?_
            rintro e w1 ⟨n, ok, rfl, hno, hb1⟩
            rw [hP.out] at hno
            have hw1 := Lib.hid (hw.out.later hb1)
            have hsz1 := hw1.out.lt
            clear hb1
            cases ok
            · obtain ⟨st', hn⟩ := hO.out.line hE.out (by omega) hno.out.1
              replace hn := Lib.hid hn
              clear hno
              go_wp2_with (at_builtin; refine wpList_append_heard rfl (.tmp 57) (.tmp 60) rfl (w.heap.size + 1) u4 hl w1.heap.size 1 (s.extract b j) ((s.data.toList.drop b).take (j + 1 - 1 - b)) hT rfl rfl (hw1.out.out.of_block fun k hk => Below.heap_alloc _ _ _ (World.ownsRow.lt hw1.out.out k hk).2) (by go_simp) (by go_simp) (by omega) (by have := hw1.out.below.size; have := hw1.out.lt; simp; omega) ?_)
              intro v4 w4 ho4 hg4 hv4
              have hfin := Lib.hid (hw1.out.append (below_alloc _ _) hg4 ho4)
              clear ho4 hg4 hv4
              go_wp2_with fail
              go_roundw
              case rel => exact ⟨j + 1 + 1, j + 1 + 1, j + 1 + 1, _, st', by go_num, by go_num, by go_num, by omega, hn, hfin⟩
              case measure => simp [intOf]; omega
            · by_cases hbig : 4096 < n ∨ 8192 < j + 1 + 1 - b + n
              · obtain ⟨st', hn⟩ := hO.out.big hE.out (by omega) hno.out.1 hbig
                replace hn := Lib.hid hn
                clear hno
                by_cases h1 : (4096 : Int) < (n : Int)
                case' neg =>
                  have h2 : (8192 : Int) < (j : Int) + 1 + 1 - (b : Int) + (n : Int) := by omega
                  have h3 : n ≤ 4096 := by omega
                all_goals
                  clear hbig
                  go_wp2_with (at_builtin; refine wpList_append_heard rfl (.tmp 78) (.tmp 81) rfl (w.heap.size + 1) u4 hl w1.heap.size 3 (s.extract b j) ((s.data.toList.drop b).take (j + 1 - 1 - b)) hT rfl rfl (hw1.out.out.of_block fun k hk => Below.heap_alloc _ _ _ (World.ownsRow.lt hw1.out.out k hk).2) (by go_simp) (by go_simp) (by omega) (by have := hw1.out.below.size; have := hw1.out.lt; simp; omega) ?_)
                  intro v4 w4 ho4 hg4 hv4
                  have hfin := Lib.hid (hw1.out.append (below_alloc _ _) hg4 ho4)
                  clear ho4 hg4 hv4
                  go_wp2_with fail
                  go_roundw
                  case rel => exact ⟨j + 1 + 1, j + 1 + 1, j + 1 + 1, _, st', by go_num, by go_num, by go_num, by omega, hn, hfin⟩
                  case measure => simp [intOf]; omega
              · obtain ⟨st', hn⟩ := hO.out.wait hE.out (by omega) hno.out.1 hbig
                replace hn := Lib.hid hn
                clear hno
                have h1 : ¬ (4096 : Int) < (n : Int) := by omega
                have h2 : ¬ (8192 : Int) < (j : Int) + 1 + 1 - (b : Int) + (n : Int) := by omega
                have h3 : n ≤ 4096 := by omega
                clear hbig
                go_wp2_with (at_builtin; refine wpList_append_heard rfl (.tmp 87) (.tmp 89) rfl (w.heap.size + 1) u4 hl w1.heap.size 2 ⟨#[]⟩ [] (Lib.hid rfl) rfl rfl (hw1.out.out.of_block fun k hk => Below.heap_alloc _ _ _ (World.ownsRow.lt hw1.out.out k hk).2) (by go_simp) (by go_simp) (by omega) (by have := hw1.out.below.size; have := hw1.out.lt; simp; omega) ?_)
                intro v4 w4 ho4 hg4 hv4
                have hfin := Lib.hid (hw1.out.append (below_alloc _ _) hg4 ho4)
                clear ho4 hg4 hv4
                go_wp2_with fail
                go_roundw
                case rel => exact ⟨j + 1 + 1, b, j + 1 + 1 + n, _, st', by go_num, by go_num, by go_num, by omega, hn, hfin⟩
                case measure => simp [intOf]; omega
          · have hE : Hid (endsL S = false) := Lib.hid (by
              rw [hend, show j + 1 - 1 = j from rfl]
              by_cases h13 : s.data.toList.getD j 0 = 13
              · rw [decide_eq_false (show ¬ s.data.toList.getD (j + 1) 0 = 10 from fun h => hb2 ⟨h13, h⟩)]; simp
              · rw [decide_eq_false h13]; simp)
            by_cases h13 : s.data.toList.getD j 0 = 13
            case' pos =>
              have t13 : ((s[j].toNat : Int) == 13) = true := byte_true hj h13 rfl
              have t10 : ((s[j + 1].toNat : Int) == 10) = false := byte_false hlt (fun h => hb2 ⟨h13, h⟩) rfl
            case' neg => have t13 : ((s[j].toNat : Int) == 13) = false := byte_false hj h13 rfl
            all_goals
              clear hend h13 hb2
              by_cases hlong : 1000 ≤ (j + 1) + 1 - p ∨ 8192 ≤ (j + 1) + 1 - b
              · have hL := Lib.hid (hO.out.long hE.out hlong)
                have hsz0 := hw.out.lt
                by_cases h1 : (1000 : Int) ≤ ((j + 1) : Int) + 1 - (p : Int)
                case' neg => have h2 : (8192 : Int) ≤ ((j + 1) : Int) + 1 - (b : Int) := by omega
                all_goals
                  clear hlong
                  go_wp2_with (at_builtin; refine wpList_append_heard rfl (.tmp 105) (.tmp 107) rfl (w.heap.size + 1) u4 hl wr.heap.size 4 ⟨#[]⟩ [] (Lib.hid rfl) rfl rfl (hw.out.out.of_block fun k hk => Below.heap_alloc _ _ _ (World.ownsRow.lt hw.out.out k hk).2) (by go_simp) (by go_simp) (by omega) (by have := hw.out.below.size; have := hw.out.lt; simp; omega) ?_)
                  intro v4 w4 ho4 hg4 hv4
                  have hfin := hw.out.append (below_alloc _ _) hg4 ho4
                  obtain ⟨⟨r0, r1, r2⟩, rf⟩ := hfin.cells
                  have rf0 := rf 0
                  have rf1 := rf 1
                  have rf2 := rf 2
                  replace hfin := Lib.hid hfin
                  clear ho4 hg4 hv4 rf
                  go_wp2_with fail
                  refine bodyPost_ret (hear_results _ _ w.heap.size v4 0 0 true rfl rfl ?_ ?_ ?_) rfl ?_
                  · go_simp
                  · go_simp
                  · go_simp
                  · refine hearRet_mk (by rw [hL.out.2.1]; rfl) (by rw [hL.out.2.2.1]; rfl) hL.out.2.2.2.symm ?_ ?_
                    · rw [hL.out.1]
                      refine (hfin.out.out.of_block fun k hk => ?_).low (Nat.le_succ _)
                      have := (World.ownsRow.lt hfin.out.out k hk).1
                      rw [Below.heap_setCell _ _ _ _ (by show k ≠ w.heap.size; omega), Below.heap_setCell _ _ _ _ (by show k ≠ w.heap.size; omega), Below.heap_setCell _ _ _ _ (by show k ≠ w.heap.size; omega)]
                    · exact ((hfin.out.below.setCell (Nat.le_refl _) _).setCell (Nat.le_refl _) _).setCell (Nat.le_refl _) _
              · obtain ⟨st', hn⟩ := hO.out.none_ hE.out (by omega) (by omega)
                replace hn := Lib.hid hn
                have h1 : ¬ (1000 : Int) ≤ ((j + 1) : Int) + 1 - (p : Int) := by omega
                have h2 : ¬ (8192 : Int) ≤ ((j + 1) : Int) + 1 - (b : Int) := by omega
                clear hlong
                go_wp2_with fail
                go_roundw
                case rel => exact ⟨(j + 1) + 1, b, p, hl, st', by go_num, rfl, rfl, by omega, hn, hw⟩
                case measure => simp [intOf]; omega
    · obtain rfl : k = s.size := by omega
      have hF := Lib.hid ((show HearInv s.data.toList s.data.toList.length b p hl st from by rw [← size_len]; exact hin.out).finish)
      have hw0 := hw.out.lt
      have hc := hw.out.cells
      obtain ⟨⟨r0, r1, r2⟩, rf⟩ := hc
      have rf0 := rf 0
      have rf1 := rf 1
      have rf2 := rf 2
      clear rf
      have hal : ∀ o, (wr.alloc o).drew.heap[w.heap.size]? = wr.heap[w.heap.size]? := fun o => Below.heap_alloc _ _ _ hw0
      replace hal := Lib.hid hal
      by_cases hpl : s.size < p
      · skip
        go_wp2_with fail
        go_region
        all_goals
          go_wp2_with fail
          refine bodyPost_ret (hear_results _ _ w.heap.size u4 ((p : Int) - (s.size : Int)) ((s.size : Int) - (b : Int)) false rfl rfl ?_ ?_ ?_) rfl ?_
          · go_simp
          · go_simp
          · go_simp
          · refine hearRet_mk (by rw [hF.out.2.1, ← size_len]; omega) (by rw [hF.out.2.2.1, ← size_len]; omega) hF.out.2.2.2.symm ?_ ?_
            · rw [hF.out.1]
              refine (hw.out.out.of_block fun k hk => ?_).low (Nat.le_succ _)
              have h3 := World.ownsRow.lt hw.out.out k hk
              refine (Below.heap_alloc _ _ _ (by simp; omega)).trans ?_
              rw [Below.heap_setCell _ _ _ _ (by show k ≠ w.heap.size; omega), Below.heap_setCell _ _ _ _ (by show k ≠ w.heap.size; omega), Below.heap_setCell _ _ _ _ (by show k ≠ w.heap.size; omega)]
            · exact ((((hw.out.below.setCell (Nat.le_refl _) _).setCell (Nat.le_refl _) _).setCell (Nat.le_refl _) _).alloc (by simp; omega) _).drew
      · have hp0 : (p : Int) - (s.size : Int) ≤ 0 := by omega
        go_wp2_with fail
        go_region
        all_goals
          go_wp2_with fail
          refine bodyPost_ret (hear_results _ _ w.heap.size u4 (0) ((s.size : Int) - (b : Int)) false rfl rfl ?_ ?_ ?_) rfl ?_
          · go_simp
          · go_simp
          · go_simp
          · refine hearRet_mk (by rw [hF.out.2.1, ← size_len]; omega) (by rw [hF.out.2.2.1, ← size_len]; omega) hF.out.2.2.2.symm ?_ ?_
            · rw [hF.out.1]
              refine (hw.out.out.of_block fun k hk => ?_).low (Nat.le_succ _)
              have h3 := World.ownsRow.lt hw.out.out k hk
              refine (Below.heap_alloc _ _ _ (by simp; omega)).trans ?_
              rw [Below.heap_setCell _ _ _ _ (by show k ≠ w.heap.size; omega), Below.heap_setCell _ _ _ _ (by show k ≠ w.heap.size; omega), Below.heap_setCell _ _ _ _ (by show k ≠ w.heap.size; omega)]
            · exact ((((hw.out.below.setCell (Nat.le_refl _) _).setCell (Nat.le_refl _) _).setCell (Nat.le_refl _) _).alloc (by simp; omega) _).drew
end Go.Proofs.YtkocnldkimjonaaDoor
