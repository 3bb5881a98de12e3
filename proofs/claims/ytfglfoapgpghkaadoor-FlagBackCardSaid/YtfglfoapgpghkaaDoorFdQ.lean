/- The program's Parse: walked. -/
import Derived.Test.YtfglfoapgpghkaaDoorFdP
namespace Go.Proofs.YtfglfoapgpghkaaDoor
open Go.RowKit

theorem parse_none {s : List UInt8} {w w' : World} (h : parseAt s = none) (hb : Below w.heap.size w w') : ParseRet s w (.returned (.tuple #[.slice none 0 0, .int .i64 0, .int .i64 4])) w' :=
  ⟨_, by rw [parseEnd, parseCode, h]; rfl, Lib.hid (by rw [parseSet, h]; exact ⟨none, 0, rfl, .inl rfl⟩), Lib.hid hb⟩
theorem parse_bad {s : List UInt8} {i : Nat} {w w' : World} (h : parseAt s = some i) (h2 : makeCode (nameL s i) ≠ 0) (hb : Below w.heap.size w w') : ParseRet s w (.returned (.tuple #[.slice none 0 0, .int .i64 0, .int .i64 (makeCode (nameL s i) : Int)])) w' :=
  ⟨_, by simp only [parseEnd, parseCode, h]; rw [if_neg h2]; rfl, Lib.hid (by simp only [parseSet, h]; rw [set_empty h2]; exact ⟨none, 0, rfl, .inl rfl⟩), Lib.hid hb⟩
theorem parse_ok {s : List UInt8} {i : Nat} {w w' : World} {v : Value} (h : parseAt s = some i) (h2 : makeCode (nameL s i) = 0) (hr : Rd w' v (makeSet (nameL s i)).length ((makeSet (nameL s i)).map encStr)) (hb : Below w.heap.size w w') : ParseRet s w (.returned (.tuple #[v, .int .i64 ((i : Int) + 1), .int .i64 0])) w' :=
  ⟨v, by simp only [parseEnd, parseCode, h]; rw [if_pos h2, h2]; rfl, Lib.hid (by simp only [parseSet, h]; exact hr), Lib.hid hb⟩
theorem headD_at (s : ByteArray) (h : 0 < s.size) : s.data.toList.headD 0 = s[0] := by
  have h' : 0 < s.data.toList.length := h
  have key : ∀ (l : List UInt8) (h : 0 < l.length), l.headD 0 = l[0] := fun l h => by
    cases l with
    | nil => simp at h
    | cons x r => rfl
  exact key _ h'
/-- what strings.Split gives: the texts between the spaces -/
theorem split_any (s : ByteArray) (hs : s.size ≤ 1048576) (m : Int) (w : World) (hm : w.cell? ⟨0, 0, none⟩ = some (.int .i64 m)) :
    Calls Tryd.prog 13 #[.string s, .string ⟨#[32]⟩] w fun e w' => ∃ v, e = .returned v ∧ Hid (Rd w' v (spl 32 s.data.toList).length ((spl 32 s.data.toList).map encStr)) ∧ Hid (Below w.heap.size w w') := by
  refine (Tryd.strings_Split s ⟨#[32]⟩ m w (by omega) hm (by decide)).mono ?_
  rintro e w' ⟨rfl, rfl⟩
  have hlen : (Lib.splitB ⟨#[32]⟩ 0 (Lib.countB s ⟨#[32]⟩) s).length = Lib.countB s ⟨#[32]⟩ + 1 := Lib.splitB_all ⟨#[32]⟩ (by decide) 0 _ s rfl
  have hsp := splitB_spl 32 s
  have hl2 : (spl 32 s.data.toList).length = Lib.countB s ⟨#[32]⟩ + 1 := by rw [← hsp, List.length_map, hlen]
  refine ⟨_, rfl, Lib.hid ?_, Lib.hid (Lays.alloc _ _).below⟩
  rw [hl2]
  refine ⟨_, _, rfl, .inr ⟨w.heap.size, 0, rfl, by simp, Nat.le_refl _, fun i u hu => ?_⟩⟩
  rw [← hsp, List.map_map] at hu
  have e1 : ((Lib.splitB ⟨#[32]⟩ 0 (Lib.countB s ⟨#[32]⟩) s).map Value.string)[i]? = some u := hu
  simp only [Nat.zero_add]
  have : (w.alloc (.cells ((Lib.splitB ⟨#[32]⟩ 0 (Lib.countB s ⟨#[32]⟩) s).map Value.string).toArray 9)).cell? ⟨w.heap.size, i, none⟩ = ((Lib.splitB ⟨#[32]⟩ 0 (Lib.countB s ⟨#[32]⟩) s).map Value.string)[i]? := by
    unfold World.cell?
    simp only [heap_alloc_new]
    simp
  rw [this]
  exact e1
theorem sized_names (s : List UInt8) (i : Nat) (hs : s.length ≤ 1048576) : Sized (nameL s i) ∧ ((nameL s i).length + 2) * 16 ≤ 140737488355328 := by
  by_cases h : i = 1
  · have e : nameL s i = [] := by rw [nameL, if_pos h]
    rw [e]
    exact ⟨fun x hx => (by cases hx), by decide⟩
  · have e : nameL s i = spl 32 ((s.take i).drop 1) := by rw [nameL, if_neg h]
    rw [e]
    have h1 : ((s.take i).drop 1).length ≤ 1048576 := by simp; omega
    refine ⟨fun x hx => ?_, ?_⟩
    · have := spl_short 32 _ x hx
      show x.length ≤ _
      unfold maxLen; omega
    · have := spl_len 32 ((s.take i).drop 1)
      omega
theorem cut_at (s : ByteArray) (i : Nat) : (s.extract 1 i).data.toList = (s.data.toList.take i).drop 1 := by
  rw [Lib.extract_data, List.drop_take]
set_option maxRecDepth 100000 in
set_option maxHeartbeats 2000000 in
theorem parse_any (s : ByteArray) (hs : s.size ≤ 1048576) (m : Int) (w : World) (hm : w.cell? ⟨0, 0, none⟩ = some (.int .i64 m)) (h0 : 0 < w.heap.size) :
    Calls Tryd.prog 5 #[.string s] w (ParseRet s.data.toList w) := by
  have hib := Lib.hid (Tryd.strings_IndexByte s 41 w)
  rw [show (Int.toNat 41).toUInt8 = 41 from rfl] at hib
  have hm0 := Lib.hid hm
  clear hm
  obtain ⟨I, hI⟩ : ∃ I, Hid (Lib.indexByte s.data.toList 41 = I) := ⟨_, Lib.hid rfl⟩
  rw [hI.out] at hib
  have hI1 : I < 0 ∨ I < s.size := by
    rcases Int.lt_or_le I 0 with h | h
    · exact .inl h
    · have := (spl_cut 41 s.data.toList I.toNat (by rw [hI.out]; omega)).2.2
      have e : s.data.toList.length = s.size := rfl
      right; omega
  by_cases h1 : I < 1
  · have hn : Hid (parseAt s.data.toList = none) := Lib.hid (by rw [parseAt, hI.out, if_pos h1])
    clear hI1
    go_enter Tryd.func5, Tryd.ntmps5
    go_wp2_with fail
    refine hib.out.mono ?_
    rintro e w' ⟨rfl, rfl⟩
    go_wp2_with fail
    go_ret3
    exact parse_none hn.out (Below.refl _ _)
  · obtain ⟨i, rfl⟩ : ∃ i : Nat, I = i := ⟨I.toNat, by omega⟩
    have hi1 : 1 ≤ i := by omega
    have his : i < s.size := by omega
    have hs0 : 0 < s.size := by omega
    clear hI1 h1
    have hhd := headD_at s hs0
    by_cases hc : s[0] = 40
    · have hat : Hid (parseAt s.data.toList = some i) := Lib.hid (by rw [parseAt, hI.out, if_neg (by omega), hhd, if_pos hc]; rfl)
      have hc1 : ((s[0].toNat : Int)) = 40 := by rw [hc]; rfl
      clear hhd hI
      replace hc := Lib.hid hc
      have hsz := sized_names s.data.toList i hs
      have hszd := Lib.hid hsz.1
      have hszl := hsz.2
      clear hsz
      rcases Nat.lt_or_ge 1 i with h2 | h2
      · have hnm : Hid (nameL s.data.toList i = spl 32 (s.extract 1 i).data.toList) := Lib.hid (by rw [nameL, if_neg (by omega), cut_at])
        have hspl := Lib.hid (split_any (s.extract 1 i) (by rw [Lib.size_eq, cut_at]; simp; have e : s.data.toList.length = s.size := rfl; omega) m w hm0.out)
        rw [← hnm.out] at hspl
        replace hnm : ∃ L, Hid (nameL s.data.toList i = L) := ⟨_, Lib.hid rfl⟩
        obtain ⟨L, hnm⟩ := hnm
        rw [hnm.out] at hspl hszd hszl
        go_enter Tryd.func5, Tryd.ntmps5
        go_wp2_with fail
        refine hib.out.mono ?_
        rintro e w' ⟨rfl, rfl⟩
        go_wp2_with fail
        refine hspl.out.mono ?_
        rintro e w2 ⟨v2, rfl, hr2, b2⟩
        clear hspl hib
        go_wp2_with fail
        refine (make_any v2 L w2 hr2.out hszl hszd.out).mono ?_
        rintro e w3 ⟨v3, rfl, hr3, b3⟩
        have b3' := Lib.hid (b2.out.trans (b3.out.mono b2.out.size))
        by_cases hcode : makeCode L = 0
        · have hend := fun (W : World) (hr : Rd W v3 (makeSet L).length ((makeSet L).map encStr)) (hb : Below w'.heap.size w' W) => parse_ok (v := v3) hat.out (by rw [hnm.out]; exact hcode) (by rw [hnm.out]; exact hr) hb
          replace hend := Lib.hid hend
          rw [hcode]
          clear hcode hat
          go_wp2_with fail
          go_ret3
          exact hend.out _ hr3.out b3'.out
        · have hend := fun (W : World) (hb : Below w'.heap.size w' W) => parse_bad hat.out (by rw [hnm.out]; exact hcode) hb
          rw [hnm.out] at hend
          replace hend := Lib.hid hend
          have hne : ((makeCode L : Int) != 0) = true := by rw [bne_iff_ne]; omega
          generalize makeCode L = C at hne hend hcode
          clear hcode hat
          go_wp2_with fail
          go_ret3
          exact hend.out _ b3'.out
      · obtain rfl : i = 1 := by omega
        have hnm : ∃ L, Hid (nameL s.data.toList 1 = L) ∧ L = [] := ⟨_, Lib.hid rfl, by rw [nameL, if_pos rfl]⟩
        obtain ⟨L, hnm, hL0⟩ := hnm
        rw [hnm.out] at hszd hszl
        have hrd0 : Hid (Rd w (.slice none 0 0) L.length (L.map encStr)) := Lib.hid (by rw [hL0]; exact ⟨none, 0, rfl, .inl rfl⟩)
        clear hL0
        go_enter Tryd.func5, Tryd.ntmps5
        go_wp2_with fail
        refine hib.out.mono ?_
        rintro e w' ⟨rfl, rfl⟩
        clear hib
        go_wp2_with fail
        refine (make_any _ L w' hrd0.out hszl hszd.out).mono ?_
        rintro e w3 ⟨v3, rfl, hr3, b3⟩
        have b3' := b3
        by_cases hcode : makeCode L = 0
        · have hend := fun (W : World) (hr : Rd W v3 (makeSet L).length ((makeSet L).map encStr)) (hb : Below w'.heap.size w' W) => parse_ok (v := v3) hat.out (by rw [hnm.out]; exact hcode) (by rw [hnm.out]; exact hr) hb
          replace hend := Lib.hid hend
          rw [hcode]
          clear hcode hat
          go_wp2_with fail
          go_ret3
          exact hend.out _ hr3.out b3'.out
        · have hend := fun (W : World) (hb : Below w'.heap.size w' W) => parse_bad hat.out (by rw [hnm.out]; exact hcode) hb
          rw [hnm.out] at hend
          replace hend := Lib.hid hend
          have hne : ((makeCode L : Int) != 0) = true := by rw [bne_iff_ne]; omega
          generalize makeCode L = C at hne hend hcode
          clear hcode hat
          go_wp2_with fail
          go_ret3
          exact hend.out _ b3'.out
    · have hn : Hid (parseAt s.data.toList = none) := Lib.hid (by rw [parseAt, hI.out, if_neg (by omega), hhd, if_neg hc])
      have hc1 : (((s[0].toNat : Int)) != 40) = true := by
        rw [bne_iff_ne]
        intro e
        exact hc (UInt8.toNat_inj.1 (by show s[0].toNat = 40; omega))
      clear hhd hI
      replace hc := Lib.hid hc
      go_enter Tryd.func5, Tryd.ntmps5
      go_wp2_with fail
      refine hib.out.mono ?_
      rintro e w' ⟨rfl, rfl⟩
      go_wp2_with fail
      go_ret3
      exact parse_none hn.out (Below.refl _ _)
end Go.Proofs.YtfglfoapgpghkaaDoor
