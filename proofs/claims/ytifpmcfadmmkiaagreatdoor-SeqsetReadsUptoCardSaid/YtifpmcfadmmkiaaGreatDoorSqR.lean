/- The document's split and Parse; SeqsetReads: walked, over what 'alive' answers. -/
import Derived.Test.YtifpmcfadmmkiaaGreatDoorSqI
import Derived.Test.YtifpmcfadmmkiaaGreatDoorSqV
namespace Go.Proofs.YtifpmcfadmmkiaaGreatDoor
open Go.RowKit

/-! plain: a range, by its pieces -/
theorem one_no58 {l : List UInt8} (h : (58 : UInt8) ∈ l) : oneL l = none := by
  cases ho : oneL l with
  | none => rfl
  | some k =>
    have := one_told ho
    rw [← this] at h
    exact absurd rfl (told_byte k 58 h).2
theorem pairO_none (a : Option Nat) : pairO a none = none := by cases a <;> rfl
theorem spl_more {c : UInt8} {l : List UInt8} (h : 1 < (spl c l).length) : c ∈ l := by
  by_cases hm : Lib.indexByte l c = -1
  · rw [(spl_none c l hm).1] at h; simp at h
  · have hge := Lib.indexByte_ge l c
    obtain ⟨h1, h2, h3⟩ := spl_cut c l (Lib.indexByte l c).toNat (by omega)
    rw [← List.count_pos_iff]; omega
theorem range_pieces (p : List UInt8) :
    (∃ a, spl 58 p = [a] ∧ rangeL p = pairO (oneL a) (oneL a)) ∨ (∃ a b, spl 58 p = [a, b] ∧ rangeL p = pairO (oneL a) (oneL b)) ∨ (2 < (spl 58 p).length ∧ rangeL p = none) := by
  by_cases hm : Lib.indexByte p 58 = -1
  · left
    refine ⟨p, (spl_none 58 p hm).1, ?_⟩
    have e : Lib.cut p [58] = (p, [], false) := by rw [Lib.cut, Lib.index_one, hm]; rfl
    unfold rangeL endA endB
    rw [e]; rfl
  · right
    have hge := Lib.indexByte_ge p 58
    have h0 : 0 ≤ Lib.indexByte p 58 := by omega
    obtain ⟨h1, h2, h3⟩ := spl_cut 58 p (Lib.indexByte p 58).toNat (by omega)
    have e : Lib.cut p [58] = (p.take (Lib.indexByte p 58).toNat, p.drop ((Lib.indexByte p 58).toNat + 1), true) := by rw [Lib.cut, Lib.index_one, if_pos h0]; rfl
    have hr : rangeL p = pairO (oneL (p.take (Lib.indexByte p 58).toNat)) (oneL (p.drop ((Lib.indexByte p 58).toNat + 1))) := by
      unfold rangeL endA endB
      rw [e]; rfl
    generalize p.take (Lib.indexByte p 58).toNat = a at h1 hr
    generalize p.drop ((Lib.indexByte p 58).toNat + 1) = b at h1 hr
    by_cases hb : Lib.indexByte b 58 = -1
    · left
      exact ⟨a, b, by rw [h1, (spl_none 58 b hb).1], hr⟩
    · right
      have hgb := Lib.indexByte_ge b 58
      obtain ⟨g1, g2, g3⟩ := spl_cut 58 b (Lib.indexByte b 58).toNat (by omega)
      have hne := spl_ne 58 (b.drop ((Lib.indexByte b 58).toNat + 1))
      have hpos : 1 ≤ (spl 58 (b.drop ((Lib.indexByte b 58).toNat + 1))).length := by
        cases hs : spl 58 (b.drop ((Lib.indexByte b 58).toNat + 1)) with
        | nil => exact absurd hs hne
        | cons x y => simp
      have hl : 1 < (spl 58 b).length := by rw [g1, List.length_cons]; omega
      refine ⟨by rw [h1, List.length_cons]; omega, ?_⟩
      rw [hr, one_no58 (spl_more hl), pairO_none]
/-! the document's split -/
def SplitRet (L : List (List UInt8)) (w : World) (e : Ending) (w' : World) : Prop := ∃ v, e = .returned v ∧ Hid (Rd w' v L.length (L.map encStr)) ∧ Hid (Below w.heap.size w w')
theorem ext_snoc (s : ByteArray) (f k : Nat) (hf : f ≤ k) (hk : k < s.size) : (s.extract f (k + 1)).data.toList = (s.extract f k).data.toList ++ [s[k]] := by
  rw [Lib.extract_data, Lib.extract_data]
  have h : k < s.data.toList.length := by simpa using hk
  rw [← List.drop_take, ← List.drop_take, List.take_succ_eq_append_getElem h, List.drop_append_of_le_length (by rw [List.length_take]; omega)]
  rfl
theorem ext_nil (s : ByteArray) (k : Nat) : (s.extract k k).data.toList = [] := by
  rw [Lib.extract_data, Nat.sub_self, List.take_zero]
theorem spl_pos (c : UInt8) (l : List UInt8) : 1 ≤ (spl c l).length := by
  cases hs : spl c l with
  | nil => exact absurd hs (spl_ne c l)
  | cons x y => simp
set_option maxRecDepth 100000 in
set_option maxHeartbeats 4000000 in
theorem refSplit_any (s : ByteArray) (c : UInt8) (hs : s.size ≤ 1048576) (w : World) :
    Calls Tryz.prog 11 #[.string s, .int .u8 c.toNat] w (SplitRet (spl c s.data.toList) w) := by
  go_enter Tryz.func11, Tryz.ntmps11
  go_wp2_with fail
  go_loopw [5, 6, 7] (fun v5 v6 v7 wr => ∃ (f k : Nat) (out : List (List UInt8)), v6 = .int .i64 f ∧ v7 = .int .i64 k ∧ f ≤ k ∧ k ≤ s.size ∧ out.length ≤ k ∧ Hid (spl c (s.data.toList.take k) = out ++ [(s.extract f k).data.toList]) ∧ Hid (OwnT wr w.heap.size v5 out) ∧ Hid (Below w.heap.size w wr)) (fun _ _ v7 _ => s.size - (intOf v7).toNat)
  case atStart => exact ⟨0, 0, [], rfl, rfl, Nat.le_refl _, Nat.zero_le _, Nat.le_refl _, Lib.hid (by rw [ext_nil]; rfl), Lib.hid (OwnT.nil _ _), Lib.hid (Below.refl _ _)⟩
  case round =>
    obtain ⟨f, k, out, rfl, rfl, hf, hk, hol, hsp, hown, hb⟩ := hrel
    have hsz := hb.out.size
    by_cases hlt : k < s.size
    · by_cases hq : s[k] = c
      · have q : ((s[k].toNat : Int) == (c.toNat : Int)) = true := by rw [hq]; exact beq_self_eq_true _
        have hsp2 : Hid (spl c (s.data.toList.take (k + 1)) = (out ++ [(s.extract f k).data.toList]) ++ [(s.extract (k + 1) (k + 1)).data.toList]) := Lib.hid (by
          rw [take_snoc s k hlt, hq, spl_snoc_eq, hsp.out, ext_nil])
        clear hq
        go_wp2_with (at_builtin; refine wpList_append_text (W := wr) rfl _ _ rfl w.heap.size u5 out (s.extract f k) rfl rfl hown.out (by omega) hsz ?_)
        intro v5 w2 ho2 hb2
        have hB2 := Lib.hid (hb.out.trans hb2)
        replace ho2 := Lib.hid ho2
        clear hown hb2
        go_wp2_with fail
        go_roundw
        case rel => exact ⟨k + 1, k + 1, out ++ [(s.extract f k).data.toList], by go_num, by go_num, Nat.le_refl _, by omega, by simp; omega, hsp2, Lib.hid (by rw [Lib.extract_data]; exact ho2.out), hB2⟩
        case measure => simp [intOf] <;> omega
      · have q : ((s[k].toNat : Int) == (c.toNat : Int)) = false := beq_eq_false_iff_ne.2 (fun h => hq (byte_ext h))
        have hsp2 : Hid (spl c (s.data.toList.take (k + 1)) = out ++ [(s.extract f (k + 1)).data.toList]) := Lib.hid (by
          rw [take_snoc s k hlt, ext_snoc s f k hf hlt, spl_snoc_ne c s[k] hq _ out _ hsp.out])
        clear hq
        go_wp2_with fail
        go_roundw
        case rel => exact ⟨f, k + 1, out, rfl, by go_num, by omega, by omega, by omega, hsp2, hown, hb⟩
        case measure => simp [intOf] <;> omega
    · obtain rfl : k = s.size := by omega
      have hsp2 : Hid (spl c s.data.toList = out ++ [(s.extract f s.size).data.toList]) := Lib.hid (by
        have := hsp.out
        rw [take_all] at this
        exact this)
      go_wp2_with (at_builtin; refine wpList_append_text (W := wr) rfl _ _ rfl w.heap.size u5 out (s.extract f s.size) rfl rfl hown.out (by omega) hsz ?_)
      intro v5 w2 ho2 hb2
      have hB2 := Lib.hid (hb.out.trans hb2)
      replace ho2 := Lib.hid ho2
      clear hown hb2
      go_wp2_with fail
      go_ret
      exact ⟨_, rfl, Lib.hid (by rw [hsp2.out, Lib.extract_data]; exact ho2.out.rd), hB2⟩
/-! the document's Parse -/
set_option maxRecDepth 100000 in
set_option maxHeartbeats 4000000 in
theorem refParse_any (s : ByteArray) (hs : s.size ≤ 1048576) (w : World) :
    Calls Tryz.prog 5 #[.string s] w (ParseRet s.data.toList w) := by
  have hsp := Lib.hid (refSplit_any s 44 hs w)
  have hsl : s.data.toList.length = s.size := rfl
  have hpl : parseL s.data.toList = if 64 < (spl 44 s.data.toList).length then none else allR (spl 44 s.data.toList) := rfl
  have hlen := spl_len 44 s.data.toList
  have hpos := spl_pos 44 s.data.toList
  have hsh := Lib.hid (spl_short 44 s.data.toList)
  generalize hL : spl 44 s.data.toList = L at hsp hpl hlen hsh hpos
  replace hL := Lib.hid hL
  replace hpl := Lib.hid hpl
  go_enter Tryz.func5, Tryz.ntmps5
  go_wp2_with fail
  refine hsp.out.mono ?_
  rintro e w1 ⟨v, rfl, hrd, hb1⟩
  have hrd0 := hrd
  obtain ⟨ao, cap, rfl, -⟩ := hrd.out
  clear hsp hrd
  go_wp2_with fail
  go_loopw [4, 6] (fun v4 v6 wr => ∃ (k : Nat) (rs : List Rng), v6 = .int .i64 k ∧ k ≤ L.length ∧ rs.length = k ∧ Hid (64 < L.length → k = 0) ∧ Hid (allR (L.take k) = some rs) ∧ Hid (OwnR wr w1.heap.size v4 rs) ∧ Hid (Below w1.heap.size w1 wr)) (fun _ v6 _ => L.length - (intOf v6).toNat)
  case atStart => exact ⟨0, [], rfl, Nat.zero_le _, rfl, Lib.hid (fun _ => rfl), Lib.hid rfl, Lib.hid (OwnR.nil _ _), Lib.hid (Below.refl _ _)⟩
  case round =>
    obtain ⟨k, rs, rfl, hk, hrl, h640, hrs, hown, hb⟩ := hrel
    have hsz := hb.out.size
    by_cases hlt : k < L.length
    · obtain ⟨b, o, hao, hbl, hcell⟩ := hrd0.out.at_pos (by omega)
      subst hao
      have hcw : wr.cell? ⟨b, o + k, none⟩ = some (.string (mkB L[k])) := (hb.out.cell (p := ⟨b, o + k, none⟩) hbl).trans (rd_cell hcell hlt)
      have hXs : L[k].length ≤ 1048576 := Nat.le_trans (hsh.out _ (List.getElem_mem hlt)) (by omega)
      have hcall := refSplit_any (mkB L[k]) 58 hXs wr
      rw [mkB_list] at hcall
      have htk : L.take (k + 1) = L.take k ++ [L[k]] := List.take_succ_eq_append_getElem hlt
      have hyes : ∀ x y, rangeL L[k] = some (x, y) → allR (L.take (k + 1)) = some (rs ++ [(x, y)]) := fun x y h => by
        rw [htk]; exact allR_snoc _ _ _ _ hrs.out h
      have hno : rangeL L[k] = none → parseL s.data.toList = none := fun h => by
        rw [hpl.out]
        split
        · rfl
        · exact allR_none L L[k] (List.getElem_mem hlt) h
      have hshk := spl_short 58 L[k]
      have hpc := range_pieces L[k]
      generalize hE : spl 58 L[k] = E at hcall hpc hshk
      generalize rangeL L[k] = R at hyes hno hpc
      generalize mkB L[k] = X at hcw hcall
      replace hcall := Lib.hid hcall
      replace hyes := Lib.hid hyes
      replace hno := Lib.hid hno
      replace hshk : Hid (∀ x ∈ E, x.length ≤ 1048576) := Lib.hid (fun x hx => Nat.le_trans (hshk x hx) hXs)
      clear hE hcell htk hXs
      rcases hpc with ⟨a, rfl, hR⟩ | ⟨a, b', rfl, hR⟩ | ⟨h2, hR⟩
      · -- one piece
        have hal := hshk.out a (by simp)
        have hoa := fun W => refOne_any (mkB a) (by show a.length ≤ _; omega) W
        rw [mkB_list] at hoa
        replace hoa : Hid (∀ W, Calls Tryz.prog 12 #[.string (mkB a)] W (RetOne a W)) := Lib.hid (fun W => (hoa W))
        replace hR := Lib.hid hR
        clear hshk hal
        by_cases h64 : 64 < L.length
        · have hn : Hid (parseL s.data.toList = none) := Lib.hid (by rw [hpl.out, if_pos h64])
          go_wp2_with fail
          refine hcall.out.mono ?_
          rintro e w2 ⟨v7, rfl, hr2, hb2⟩
          obtain ⟨ao2, cap2, rfl, -⟩ := hr2.out
          have hB2 := Lib.hid (hb.out.trans (hb2.out.mono hb.out.size))
          clear hcall hb2 hyes hno
          go_wp2_with fail
          go_ret2
          exact parse_no hn.out (hb1.out.trans (hB2.out.mono hb1.out.size))
        · have h64' : L.length ≤ 64 := by omega
          go_wp2_with fail
          refine hcall.out.mono ?_
          rintro e w2 ⟨v7, rfl, hr2, hb2⟩
          obtain ⟨ao2, cap2, rfl, -⟩ := hr2.out
          obtain ⟨b2, o2, hao2, hbl2, hcell2⟩ := hr2.out.at_pos (by simp)
          subst hao2
          have c0 : w2.cell? ⟨b2, o2, none⟩ = some (.string (mkB a)) := hcell2 0 _ rfl
          have hck := Lib.hid (fun W (h : Below w2.heap.size w2 W) => (h.cell (p := ⟨b2, o2, none⟩) hbl2).trans c0)
          have hB2 := Lib.hid (hb.out.trans (hb2.out.mono hb.out.size))
          have ho2 := Lib.hid (hown.out.below hb2.out)
          have hcap2 := Rd.cap_le hr2.out (by simp)
          simp only [List.length_cons, List.length_nil, Nat.zero_add] at hcap2 ⊢
          clear hcall hb2 hcell2 hr2 hbl2 hown
          go_wp2_with fail
          refine (hoa.out w2).mono ?_
          rintro e w3 ⟨x, okx, rfl, hx, hb3⟩
          have c3 := hck.out w3 hb3.out
          have hB3 := Lib.hid (hB2.out.trans (hb3.out.mono hB2.out.size))
          have ho3 := Lib.hid (ho2.out.below hb3.out)
          clear hb3 hB2 ho2 hck c0
          go_wp2_with fail
          refine (hoa.out w3).mono ?_
          rintro e w4 ⟨y, oky, rfl, hy, hb4⟩
          have hB4 := Lib.hid (hB3.out.trans (hb4.out.mono hB3.out.size))
          have ho4 := Lib.hid (ho3.out.below hb4.out)
          clear hb4 hB3 ho3 c3
          cases okx
          · have hq := Lib.hid (hno.out (by rw [hR.out, hx.out]; rfl))
            clear hyes hno hx hy
            go_wp2_with fail
            go_ret2
            exact parse_no hq.out (hb1.out.trans (hB4.out.mono hb1.out.size))
          · cases oky
            · have hq := Lib.hid (hno.out (by rw [hR.out, hy.out]; exact pairO_none _))
              clear hyes hno hx hy
              go_wp2_with fail
              go_ret2
              exact parse_no hq.out (hb1.out.trans (hB4.out.mono hb1.out.size))
            · have hq := Lib.hid (hyes.out x y (by
                have e1 : oneL a = some x := hx.out
                have e2 : some x = some y := hx.out.symm.trans hy.out
                rw [hR.out, e1, e2]; cases e2; rfl))
              have hz4 := hB4.out.size
              clear hyes hno hx hy
              go_wp2_with (at_builtin; refine wpList_append_range (W := w4) rfl _ _ rfl w1.heap.size u4 rs x y rfl rfl ho4.out (by omega) hz4 ?_)
              intro v4 w5 ho5 hb5
              have hB5 := Lib.hid (hB4.out.trans hb5)
              replace ho5 := Lib.hid ho5
              clear ho4 hb5 hB4
              go_wp2_with fail
              go_roundw
              case rel => exact ⟨k + 1, rs ++ [(x, y)], by go_num, by omega, by simp [hrl], Lib.hid (fun h => by omega), hq, ho5, hB5⟩
              case measure => simp [intOf] <;> omega
      · -- two pieces
        have hal := hshk.out a (by simp)
        have hbl' := hshk.out b' (by simp)
        have hoa := fun W => refOne_any (mkB a) (by show a.length ≤ _; omega) W
        have hob := fun W => refOne_any (mkB b') (by show b'.length ≤ _; omega) W
        rw [mkB_list] at hoa hob
        replace hoa : Hid (∀ W, Calls Tryz.prog 12 #[.string (mkB a)] W (RetOne a W)) := Lib.hid (fun W => (hoa W))
        replace hob : Hid (∀ W, Calls Tryz.prog 12 #[.string (mkB b')] W (RetOne b' W)) := Lib.hid (fun W => (hob W))
        replace hR := Lib.hid hR
        clear hshk hal hbl'
        by_cases h64 : 64 < L.length
        · have hn : Hid (parseL s.data.toList = none) := Lib.hid (by rw [hpl.out, if_pos h64])
          go_wp2_with fail
          refine hcall.out.mono ?_
          rintro e w2 ⟨v7, rfl, hr2, hb2⟩
          obtain ⟨ao2, cap2, rfl, -⟩ := hr2.out
          have hB2 := Lib.hid (hb.out.trans (hb2.out.mono hb.out.size))
          clear hcall hb2 hyes hno
          go_wp2_with fail
          go_ret2
          exact parse_no hn.out (hb1.out.trans (hB2.out.mono hb1.out.size))
        · have h64' : L.length ≤ 64 := by omega
          go_wp2_with fail
          refine hcall.out.mono ?_
          rintro e w2 ⟨v7, rfl, hr2, hb2⟩
          obtain ⟨ao2, cap2, rfl, -⟩ := hr2.out
          obtain ⟨b2, o2, hao2, hbl2, hcell2⟩ := hr2.out.at_pos (by simp)
          subst hao2
          have c0 : w2.cell? ⟨b2, o2, none⟩ = some (.string (mkB a)) := hcell2 0 _ rfl
          have c1 : w2.cell? ⟨b2, o2 + 1, none⟩ = some (.string (mkB b')) := hcell2 1 _ rfl
          have hck := Lib.hid (fun W (h : Below w2.heap.size w2 W) => (h.cell (p := ⟨b2, o2 + 1, none⟩) hbl2).trans c1)
          have hB2 := Lib.hid (hb.out.trans (hb2.out.mono hb.out.size))
          have ho2 := Lib.hid (hown.out.below hb2.out)
          have hcap2 := Rd.cap_le hr2.out (by simp)
          simp only [List.length_cons, List.length_nil, Nat.zero_add, Nat.reduceAdd] at hcap2 ⊢
          clear hcall hb2 hcell2 hr2 hbl2 hown
          go_wp2_with fail
          refine (hoa.out w2).mono ?_
          rintro e w3 ⟨x, okx, rfl, hx, hb3⟩
          have c3 := hck.out w3 hb3.out
          have hB3 := Lib.hid (hB2.out.trans (hb3.out.mono hB2.out.size))
          have ho3 := Lib.hid (ho2.out.below hb3.out)
          clear hb3 hB2 ho2 hck c0 c1
          go_wp2_with fail
          refine (hob.out w3).mono ?_
          rintro e w4 ⟨y, oky, rfl, hy, hb4⟩
          have hB4 := Lib.hid (hB3.out.trans (hb4.out.mono hB3.out.size))
          have ho4 := Lib.hid (ho3.out.below hb4.out)
          clear hb4 hB3 ho3 c3
          cases okx
          · have hq := Lib.hid (hno.out (by rw [hR.out, hx.out]; rfl))
            clear hyes hno hx hy
            go_wp2_with fail
            go_ret2
            exact parse_no hq.out (hb1.out.trans (hB4.out.mono hb1.out.size))
          · cases oky
            · have hq := Lib.hid (hno.out (by rw [hR.out, hy.out]; exact pairO_none _))
              clear hyes hno hx hy
              go_wp2_with fail
              go_ret2
              exact parse_no hq.out (hb1.out.trans (hB4.out.mono hb1.out.size))
            · have hq := Lib.hid (hyes.out x y (by rw [hR.out, hx.out, hy.out]; rfl))
              have hz4 := hB4.out.size
              clear hyes hno hx hy
              go_wp2_with (at_builtin; refine wpList_append_range (W := w4) rfl _ _ rfl w1.heap.size u4 rs x y rfl rfl ho4.out (by omega) hz4 ?_)
              intro v4 w5 ho5 hb5
              have hB5 := Lib.hid (hB4.out.trans hb5)
              replace ho5 := Lib.hid ho5
              clear ho4 hb5 hB4
              go_wp2_with fail
              go_roundw
              case rel => exact ⟨k + 1, rs ++ [(x, y)], by go_num, by omega, by simp [hrl], Lib.hid (fun h => by omega), hq, ho5, hB5⟩
              case measure => simp [intOf] <;> omega
      · -- more pieces
        have hn := Lib.hid (hno.out hR)
        clear hno hyes hR hshk
        go_wp2_with fail
        refine hcall.out.mono ?_
        rintro e w2 ⟨v7, rfl, hr2, hb2⟩
        obtain ⟨ao2, cap2, rfl, -⟩ := hr2.out
        have hB2 := Lib.hid (hb.out.trans (hb2.out.mono hb.out.size))
        clear hcall hb2
        go_wp2_with fail
        go_ret2
        exact parse_no hn.out (hb1.out.trans (hB2.out.mono hb1.out.size))
    · obtain rfl : k = L.length := by omega
      have h64 : ¬ 64 < L.length := fun h => by have := h640 h; omega
      have hq : Hid (parseL s.data.toList = some rs) := Lib.hid (by rw [hpl.out, if_neg h64, ← hrs.out, List.take_length])
      clear h640 h64
      go_wp2_with fail
      go_ret2
      exact parse_yes hq.out hown.out.ranges (hb1.out.trans (hb.out.mono hb1.out.size))
set_option maxRecDepth 100000 in
set_option maxHeartbeats 4000000 in
theorem reads_any (hal : AliveOk) (s : ByteArray) (hs : s.size ≤ 1048576) (w : World) (hg : Gr w) :
    Calls Tryz.prog 3 #[.string s] w fun e w' => e = .returned (.bool true) ∧ Below w.heap.size w w' := by
  have hP := Lib.hid (fun W (h : Gr W) => parse_any s hs W h)
  have hP2 := Lib.hid (fun W => refParse_any s hs W)
  have hlen : ((parseL s.data.toList).getD []).length ≤ 9223372036854775807 := by
    cases h : parseL s.data.toList with
    | none => simp
    | some rs =>
      have := print_parts (print_parse h).1
      simp only [Option.getD_some]; omega
  have hS := Lib.hid (fun W va vb (a : List Rng) (h : RangesIn W W.heap.size va a) (h2 : RangesIn W W.heap.size vb a) (hl : a.length ≤ 9223372036854775807) => same_any va vb a a W h h2 hl)
  simp only [decide_true] at hS
  replace hlen := Lib.hid hlen
  replace hg := Lib.hid hg
  replace hal := Lib.hid hal
  unfold AliveOk at hal
  go_enter Tryz.func3, Tryz.ntmps3
  go_wp2_with fail
  refine (hP.out w hg.out).mono ?_
  rintro e w1 ⟨v1, rfl, r1, b1⟩
  have g1 := Lib.hid (hg.out.later b1.out)
  clear hP
  go_wp2_with fail
  refine (hP2.out w1).mono ?_
  rintro e w2 ⟨v2, rfl, r2, b2⟩
  have g2 := Lib.hid (g1.out.later b2.out)
  have k2 := Lib.hid (r1.out.on b2.out)
  have B2 := Lib.hid (b1.out.trans (b2.out.mono b1.out.size))
  clear hP2 r1 b1 b2 g1
  have hbb : ((parseL s.data.toList).isSome == (parseL s.data.toList).isSome) = true := beq_self_eq_true _
  generalize (parseL s.data.toList).isSome = ok at hbb ⊢
  go_wp2_with fail
  refine (hal.out w2 g2.out).mono ?_
  rintro e w3 ⟨rfl, b3⟩
  have k3 := Lib.hid (k2.out.on b3)
  have r3 := Lib.hid (r2.out.on b3)
  have B3 := Lib.hid (B2.out.trans (b3.mono B2.out.size))
  clear k2 r2 b3 B2 hal
  go_wp2_with fail
  refine (hS.out w3 _ _ _ k3.out r3.out hlen.out).mono ?_
  rintro e w4 ⟨rfl, b4⟩
  have B4 := Lib.hid (B3.out.trans (b4.mono B3.out.size))
  clear k3 r3 b4 B3
  go_wp2_with fail
  go_ret
  exact ⟨rfl, B4.out⟩
end Go.Proofs.YtifpmcfadmmkiaaGreatDoor
