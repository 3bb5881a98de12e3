/- Make, of the program and of the document; Same. -/
import Derived.Test.YtfglfoapgpghkaaDoorFlE
namespace Go.Proofs.YtfglfoapgpghkaaDoor
open Go.RowKit

def canonAll : List (List UInt8) → Option (List (List UInt8))
  | [] => some []
  | x :: r => match canonL x with
    | none => none
    | some c => (canonAll r).map (c :: ·)
theorem canonAll_append : ∀ a b : List (List UInt8), canonAll (a ++ b) = (canonAll a).bind fun x => (canonAll b).map (x ++ ·)
  | [], b => by simp [canonAll]
  | x :: r, b => by
    rw [List.cons_append, canonAll, canonAll, canonAll_append r b]
    cases canonL x with
    | none => rfl
    | some c =>
      cases canonAll r with
      | none => rfl
      | some y => cases canonAll b <;> simp
theorem canonAll_snoc (l : List (List UInt8)) (k : Nat) (h : k < l.length) (cs : List (List UInt8)) (hc : canonAll (l.take k) = some cs) : canonAll (l.take (k + 1)) = (canonL l[k]).map fun c => cs ++ [c] := by
  rw [List.take_succ_eq_append_getElem h, canonAll_append, hc]
  simp only [Option.bind_some, canonAll]
  cases canonL l[k] <;> simp
theorem canonAll_none (l : List (List UInt8)) (k : Nat) (h : canonAll (l.take k) = none) : canonAll l = none := by
  rw [← List.take_append_drop k l, canonAll_append, h]; rfl
theorem canonAll_len : ∀ (l cs : List (List UInt8)), canonAll l = some cs → cs.length = l.length
  | [], cs, h => by simp [canonAll] at h; subst h; rfl
  | x :: r, cs, h => by
    rw [canonAll] at h
    cases hx : canonL x with
    | none => rw [hx] at h; cases h
    | some c =>
      rw [hx] at h
      cases hr : canonAll r with
      | none => rw [hr] at h; cases h
      | some y =>
        rw [hr] at h
        have := Option.some.inj h
        rw [← this, List.length_cons, List.length_cons, canonAll_len r y hr]
/-- the error's number of Make -/
def makeCode (l : List (List UInt8)) : Nat := match canonAll l with
  | none => 4
  | some cs => if 16 < (fset cs).length then 7 else 0
/-- the set that Make makes -/
def makeSet (l : List (List UInt8)) : List (List UInt8) := match canonAll l with
  | none => []
  | some cs => if 16 < (fset cs).length then [] else fset cs
def MakeRet (l : List (List UInt8)) (w : World) (e : Ending) (w' : World) : Prop := ∃ v', e = .returned (.tuple #[v', .int .i64 (makeCode l : Int)]) ∧ Hid (Rd w' v' (makeSet l).length ((makeSet l).map encStr)) ∧ Hid (Below w.heap.size w w')
theorem make_none {l : List (List UInt8)} {w w' : World} (h : canonAll l = none) (hb : Below w.heap.size w w') : MakeRet l w (.returned (.tuple #[.slice none 0 0, .int .i64 4])) w' :=
  ⟨_, by rw [makeCode, h]; rfl, Lib.hid (by rw [makeSet, h]; exact ⟨none, 0, rfl, .inl rfl⟩), Lib.hid hb⟩
theorem make_full {l cs : List (List UInt8)} {w w' : World} (h : canonAll l = some cs) (h2 : 16 < (fset cs).length) (hb : Below w.heap.size w w') : MakeRet l w (.returned (.tuple #[.slice none 0 0, .int .i64 7])) w' :=
  ⟨_, by simp only [makeCode, h]; rw [if_pos h2]; rfl, Lib.hid (by simp only [makeSet, h]; rw [if_pos h2]; exact ⟨none, 0, rfl, .inl rfl⟩), Lib.hid hb⟩
theorem make_ok {l cs : List (List UInt8)} {w w' : World} {v : Value} (h : canonAll l = some cs) (h2 : ¬ 16 < (fset cs).length) (hr : Rd w' v (fset cs).length ((fset cs).map encStr)) (hb : Below w.heap.size w w') : MakeRet l w (.returned (.tuple #[v, .int .i64 0])) w' :=
  ⟨v, by simp only [makeCode, h]; rw [if_neg h2]; rfl, Lib.hid (by simp only [makeSet, h]; rw [if_neg h2]; exact hr), Lib.hid hb⟩
/-- texts of a size that may be -/
def Sized (l : List (List UInt8)) : Prop := ∀ x ∈ l, (mkB x).size ≤ maxLen
set_option maxRecDepth 100000 in
set_option maxHeartbeats 2000000 in
theorem make_any (v : Value) (l : List (List UInt8)) (w : World) (hr : Rd w v l.length (l.map encStr)) (hl : (l.length + 2) * 16 ≤ 140737488355328) (hs : Sized l) :
    Calls Tryd.prog 14 #[v] w (MakeRet l w) := by
  have hr0 := Lib.hid hr
  replace hs := Lib.hid hs
  obtain ⟨ao, cap, rfl, -⟩ := hr
  go_enter Tryd.func14, Tryd.ntmps14
  go_wp2_with fail
  go_loopw [4, 11] (fun vo vk wr => ∃ (k : Nat) (cs : List (List UInt8)), vk = .int .i64 k ∧ k ≤ l.length ∧ cs.length = k ∧ Hid (canonAll (l.take k) = some cs) ∧ Hid (OwnT wr w.heap.size vo cs) ∧ Hid (Below w.heap.size w wr)) (fun _ vk _ => l.length - (intOf vk).toNat)
  case atStart => exact ⟨0, [], rfl, Nat.zero_le _, rfl, Lib.hid rfl, Lib.hid (OwnT.nil _ _), Lib.hid (Below.refl _ _)⟩
  case round =>
    obtain ⟨k, cs, rfl, hk, hck, hcs, hown, hb⟩ := hrel
    have hsz := hb.out.size
    by_cases hlt : k < l.length
    · obtain ⟨b, o, hao, hbl, hcell⟩ := hr0.out.at_pos (by omega)
      subst hao
      have hcw : wr.cell? ⟨b, o + k, none⟩ = some (.string (mkB l[k])) := (hb.out.cell (p := ⟨b, o + k, none⟩) hbl).trans (rd_cell hcell hlt)
      have hsn := canonAll_snoc l k hlt cs hcs.out
      have hcan := Lib.hid (canon_any (mkB l[k]) (hs.out _ (List.getElem_mem hlt)) wr)
      rw [mkB_list] at hcan
      replace hsn := Lib.hid hsn
      generalize mkB l[k] = X at hcw hcan
      clear hcell
      go_wp2_with fail
      refine hcan.out.mono ?_
      rintro e w2 ⟨u, ok, rfl, hu, hb2⟩
      have hb3 := Lib.hid (hb.out.trans (hb2.out.mono hb.out.size))
      have hown2 := Lib.hid (hown.out.below hb2.out)
      have hsz3 := hb3.out.size
      clear hcan hb2
      cases ok
      · have hno := Lib.hid (canonAll_none l (k + 1) (by rw [hsn.out, hu.out.1]; rfl))
        clear hu hsn
        go_wp2_with fail
        go_ret2
        exact make_none hno.out hb3.out
      · have hnx : Hid (canonAll (l.take (k + 1)) = some (cs ++ [u.data.toList])) := Lib.hid (by rw [hsn.out, hu.out.1]; rfl)
        clear hu hsn
        go_wp2_with (at_builtin; refine wpList_append_text rfl (.tmp 22) (.tmp 24) rfl w.heap.size u4 cs w2.heap.size u rfl rfl (hown2.out.below (Lays.alloc _ _).below) (by simp) (by simp) (by omega) (by simp; omega) ?_)
        intro v4 w4 ho4 hg4 hv4
        have hb4 := Lib.hid ((hb3.out.alloc hb3.out.size _).grown hg4 (by simp; omega) (fun k hk => (hown.out.lt k hk).1))
        replace ho4 := Lib.hid ho4
        clear hg4 hv4
        go_wp2_with fail
        go_roundw
        case rel => exact ⟨k + 1, _, by go_num, by omega, by simp; omega, hnx, ho4, hb4⟩
        case measure => simp [intOf]; omega
    · obtain rfl : k = l.length := by omega
      rw [List.take_length] at hcs
      go_wp2_with fail
      refine (set_any u4 cs wr hown.out.rd (by omega)).mono ?_
      rintro e w2 ⟨v2, rfl, ho2, hb2⟩
      have hb3 := Lib.hid (hb.out.trans (hb2.out.mono hb.out.size))
      have hrd := Lib.hid ho2.out.rd
      obtain ⟨a2, c2, rfl⟩ : ∃ a c, v2 = .slice a (fset cs).length c := by
        obtain ⟨a, c, hv, _⟩ := ho2.out
        exact ⟨a, c, hv⟩
      have hfl : (fset cs).length ≤ cs.length := setS_len flt cs
      clear hb2 ho2
      by_cases h16 : 16 < (fset cs).length
      · go_wp2_with fail
        go_ret2
        exact make_full hcs.out h16 hb3.out
      · go_wp2_with fail
        go_ret2
        exact make_ok hcs.out h16 hrd.out hb3.out
theorem fset_snoc (cs : List (List UInt8)) (c : List UInt8) : withS flt (fset cs) c = fset (cs ++ [c]) := by
  unfold fset setS
  rw [List.foldl_append]; rfl
set_option maxRecDepth 100000 in
set_option maxHeartbeats 2000000 in
theorem refMake_any (v : Value) (l : List (List UInt8)) (w : World) (hr : Rd w v l.length (l.map encStr)) (hl : (l.length + 2) * 16 ≤ 140737488355328) (hs : Sized l) :
    Calls Tryd.prog 15 #[v] w (MakeRet l w) := by
  have hr0 := Lib.hid hr
  replace hs := Lib.hid hs
  obtain ⟨ao, cap, rfl, -⟩ := hr
  go_enter Tryd.func15, Tryd.ntmps15
  go_wp2_with fail
  go_loopw [4, 5] (fun vo vk wr => ∃ (k : Nat) (cs : List (List UInt8)), vk = .int .i64 k ∧ k ≤ l.length ∧ cs.length = k ∧ Hid (canonAll (l.take k) = some cs) ∧ Hid (Rd wr vo (fset cs).length ((fset cs).map encStr)) ∧ Hid (Below w.heap.size w wr)) (fun _ vk _ => l.length - (intOf vk).toNat)
  case atStart => exact ⟨0, [], rfl, Nat.zero_le _, rfl, Lib.hid rfl, Lib.hid ⟨none, 0, rfl, .inl rfl⟩, Lib.hid (Below.refl _ _)⟩
  case round =>
    obtain ⟨k, cs, rfl, hk, hck, hcs, hrd, hb⟩ := hrel
    have hsz := hb.out.size
    have hfl : (fset cs).length ≤ cs.length := setS_len flt cs
    by_cases hlt : k < l.length
    · obtain ⟨b, o, hao, hbl, hcell⟩ := hr0.out.at_pos (by omega)
      subst hao
      have hcw : wr.cell? ⟨b, o + k, none⟩ = some (.string (mkB l[k])) := (hb.out.cell (p := ⟨b, o + k, none⟩) hbl).trans (rd_cell hcell hlt)
      have hsn := canonAll_snoc l k hlt cs hcs.out
      have hcan := Lib.hid (refCanon_any (mkB l[k]) (hs.out _ (List.getElem_mem hlt)) wr)
      rw [mkB_list] at hcan
      replace hsn := Lib.hid hsn
      generalize mkB l[k] = X at hcw hcan
      clear hcell
      go_wp2_with fail
      refine hcan.out.mono ?_
      rintro e w2 ⟨u, ok, rfl, hu, hb2⟩
      have hb3 := Lib.hid (hb.out.trans (hb2.out.mono hb.out.size))
      have hrd2 := Lib.hid (hrd.out.below hb2.out)
      clear hcan hb2
      cases ok
      · have hno := Lib.hid (canonAll_none l (k + 1) (by rw [hsn.out, hu.out.1]; rfl))
        clear hu hsn
        go_wp2_with fail
        go_ret2
        exact make_none hno.out hb3.out
      · have hnx : Hid (canonAll (l.take (k + 1)) = some (cs ++ [u.data.toList])) := Lib.hid (by rw [hsn.out, hu.out.1]; rfl)
        clear hu hsn
        go_wp2_with fail
        refine (refWith_any u4 (fset cs) u w2 hrd2.out (by omega)).mono ?_
        rintro e w4 ⟨v4, rfl, hr4, hb4⟩
        have hb5 := Lib.hid (hb3.out.trans (hb4.out.mono hb3.out.size))
        clear hb4
        go_wp2_with fail
        go_roundw
        case rel => exact ⟨k + 1, _, by go_num, by omega, by simp; omega, hnx, Lib.hid (by rw [← fset_snoc]; exact hr4.out), hb5⟩
        case measure => simp [intOf]; omega
    · obtain rfl : k = l.length := by omega
      rw [List.take_length] at hcs
      have hrd' := hrd.out
      obtain ⟨a2, c2, hv2⟩ : ∃ a c, u4 = .slice a (fset cs).length c := by
        obtain ⟨a, c, hv, _⟩ := hrd'
        exact ⟨a, c, hv⟩
      subst hv2
      clear hrd'
      by_cases h16 : 16 < (fset cs).length
      · go_wp2_with fail
        go_ret2
        exact make_full hcs.out h16 hb.out
      · go_wp2_with fail
        go_ret2
        exact make_ok hcs.out h16 hrd.out hb.out
set_option maxRecDepth 100000 in
set_option maxHeartbeats 1000000 in
theorem same_any (v1 v2 : Value) (l m : List (List UInt8)) (w : World) (h1 : Rd w v1 l.length (l.map encStr)) (h2 : Rd w v2 m.length (m.map encStr)) (hl : l.length * 16 ≤ 140737488355328) :
    Calls Tryd.prog 10 #[v1, v2] w fun e w' => e = .returned (.bool (decide (l = m))) ∧ Below w.heap.size w w' := by
  have r1 := Lib.hid h1
  have r2 := Lib.hid h2
  obtain ⟨a1, c1, rfl, -⟩ := h1
  obtain ⟨a2, c2, rfl, -⟩ := h2
  by_cases hlen : l.length = m.length
  · rw [← hlen] at r2
    rw [← hlen]
    have hlm := Lib.hid hlen
    clear hlen
    go_enter Tryd.func10, Tryd.ntmps10
    go_wp2_with fail
    go_loopw [5] (fun i wr => ∃ (k n : Nat), i = .int .i64 k ∧ k ≤ l.length ∧ Hid (l.take k = m.take k) ∧ wr = w.drewN n) (fun i _ => l.length - (intOf i).toNat)
    case atStart => exact ⟨0, 0, rfl, Nat.zero_le _, Lib.hid rfl, rfl⟩
    case round =>
      obtain ⟨k, n, rfl, hk, htk, rfl⟩ := hrel
      by_cases hlt : k < l.length
      · obtain ⟨b, o, hao, hbl, hcell⟩ := r1.out.at_pos (by omega)
        subst hao
        obtain ⟨b2, o2, hao2, hbl2, hcell2⟩ := r2.out.at_pos (by omega)
        subst hao2
        have hlt2 : k < m.length := by have := hlm.out; omega
        have p0 := rd_cell hcell hlt
        have q0 := rd_cell hcell2 hlt2
        have hq : ((mkB l[k]).toList == (mkB m[k]).toList) = (l[k] == m[k]) := by rw [eq_str, mkB_list, mkB_list]
        have hst : Hid (l[k] = m[k] → l.take (k + 1) = m.take (k + 1)) := Lib.hid (fun h => by
          rw [List.take_succ_eq_append_getElem hlt, List.take_succ_eq_append_getElem hlt2, htk.out, h])
        have hne : Hid (l[k] ≠ m[k] → l ≠ m) := Lib.hid (fun h e => by subst e; exact h rfl)
        clear hcell hcell2
        generalize mkB l[k] = X at p0 hq
        generalize mkB m[k] = Y at q0 hq
        cases h : (l[k] == m[k])
        · have hn := Lib.hid (hne.out (by simpa using h))
          rw [h] at hq
          replace h := Lib.hid h
          clear hst hne
          go_wp2_with fail
          go_quiet (fail)
          go_wp2_with fail
          go_ret
          exact ⟨by rw [decide_eq_false hn.out]; rfl, below_drewN (below_drewN (Below.refl _ _) _) _⟩
        · have hn := Lib.hid (hst.out (by simpa using h))
          rw [h] at hq
          replace h := Lib.hid h
          clear hst hne
          go_wp2_with fail
          go_quiet (fail)
          go_wp2_with fail
          go_roundw
          case rel => exact ⟨k + 1, _, by go_num, by omega, hn, rfl⟩
          case measure => simp [intOf]; omega
      · have hy : Hid (l = m) := Lib.hid (by
          have h3 := htk.out
          have h4 := hlm.out
          rwa [List.take_of_length_le (by omega), List.take_of_length_le (by omega)] at h3)
        go_wp2_with fail
        go_ret
        exact ⟨by rw [decide_eq_true hy.out]; rfl, below_drewN (Below.refl _ _) _⟩
  · have hne : Hid (l ≠ m) := Lib.hid (fun e => hlen (by rw [e]))
    have ht : ((l.length : Int) != (m.length : Int)) = true := by rw [bne_iff_ne]; omega
    clear hlen
    go_enter Tryd.func10, Tryd.ntmps10
    go_wp2_with fail
    go_ret
    exact ⟨by rw [decide_eq_false hne.out]; rfl, Below.refl _ _⟩
end Go.Proofs.YtfglfoapgpghkaaDoor
