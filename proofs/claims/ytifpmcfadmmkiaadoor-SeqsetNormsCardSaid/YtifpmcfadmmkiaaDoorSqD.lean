/- Parse: walked. -/
import Derived.Test.YtifpmcfadmmkiaaDoorSqC
namespace Go.Proofs.YtifpmcfadmmkiaaDoor
open Go.RowKit

/-- what all walks ask of the ground: the table of powers of ten, the two errors of strconv, bytealg's MaxLen -/
def Gr (w : World) : Prop := Tab w ∧ Errs w ∧ ∃ m, w.cell? ⟨0, 0, none⟩ = some (.int .i64 m)
theorem Gr.later {w w' : World} (h : Gr w) (hb : Below w.heap.size w w') : Gr w' := by
  obtain ⟨h1, h2, m, hm⟩ := h
  exact ⟨h1.later hb, h2.later hb, m, (hb.cell (p := ⟨0, 0, none⟩) (World.block_lt_of_cell? w ⟨0, 0, none⟩ hm)).trans hm⟩
theorem Gr.drewN {w : World} (h : Gr w) (n : Nat) : Gr (w.drewN n) := h.later (below_drewN (Below.refl _ _) n)
set_option maxRecDepth 100000 in
set_option maxHeartbeats 4000000 in
theorem parse_any (s : ByteArray) (hs : s.size ≤ 1048576) (w : World) (hg : Gr w) :
    Calls Tryd.prog 16 #[.string s] w (ParseRet s.data.toList w) := by
  obtain ⟨m, hm⟩ := hg.2.2
  have hsp := Lib.hid (split_any s hs m w hm)
  have hsl : s.data.toList.length = s.size := rfl
  have hpl : parseL s.data.toList = if 64 < (spl 44 s.data.toList).length then none else allR (spl 44 s.data.toList) := rfl
  have hlen := spl_len 44 s.data.toList
  have hsh := Lib.hid (spl_short 44 s.data.toList)
  generalize hL : spl 44 s.data.toList = L at hsp hpl hlen hsh
  replace hL := Lib.hid hL
  replace hpl := Lib.hid hpl
  replace hg := Lib.hid hg
  clear hm
  go_enter Tryd.func16, Tryd.ntmps16
  go_wp2_with fail
  refine hsp.out.mono ?_
  rintro e w1 ⟨v, rfl, hrd, hb1⟩
  have hg1 := Lib.hid (hg.out.later hb1.out)
  have hrd0 := hrd
  obtain ⟨ao, cap, rfl, -⟩ := hrd.out
  clear hsp hrd
  by_cases h64 : 64 < L.length
  · have hn : Hid (parseL s.data.toList = none) := Lib.hid (by rw [hpl.out, if_pos h64])
    go_wp2_with fail
    go_ret2
    exact parse_no hn.out hb1.out
  · have hn : Hid (parseL s.data.toList = allR L) := Lib.hid (by rw [hpl.out, if_neg h64])
    clear hpl
    go_wp2_with fail
    go_loopw [5, 22] (fun v5 v22 wr => ∃ (k : Nat) (rs : List Rng), v22 = .int .i64 k ∧ k ≤ L.length ∧ rs.length = k ∧ Hid (allR (L.take k) = some rs) ∧ Hid (OwnR wr w1.heap.size v5 rs) ∧ Hid (Below w1.heap.size w1 wr)) (fun _ v22 _ => L.length - (intOf v22).toNat)
    case atStart => exact ⟨0, [], rfl, Nat.zero_le _, rfl, Lib.hid rfl, Lib.hid (OwnR.nil _ _), Lib.hid (Below.refl _ _)⟩
    case round =>
      obtain ⟨k, rs, rfl, hk, hrl, hrs, hown, hb⟩ := hrel
      have hsz := hb.out.size
      by_cases hlt : k < L.length
      · obtain ⟨b, o, hao, hbl, hcell⟩ := hrd0.out.at_pos (by omega)
        subst hao
        have hcw : wr.cell? ⟨b, o + k, none⟩ = some (.string (mkB L[k])) := (hb.out.cell (p := ⟨b, o + k, none⟩) hbl).trans (rd_cell hcell hlt)
        have hXs : L[k].length ≤ 1048576 := Nat.le_trans (hsh.out _ (List.getElem_mem hlt)) (by omega)
        obtain ⟨m, hmr⟩ := (hg1.out.later hb.out).2.2
        have hcut := cut_any (mkB L[k]) (by show L[k].length ≤ _; omega) m wr hmr
        have hcl := cut_len L[k]
        rw [mkB_list] at hcut
        have htk : L.take (k + 1) = L.take k ++ [L[k]] := List.take_succ_eq_append_getElem hlt
        have hyes : ∀ x y, oneL (endA L[k]) = some x → oneL (endB L[k]) = some y → allR (L.take (k + 1)) = some (rs ++ [(x, y)]) := fun x y hx hy => by
          rw [htk]
          exact allR_snoc _ _ _ _ hrs.out (by rw [rangeL, hx, hy]; rfl)
        have hno : oneL (endA L[k]) = none ∨ oneL (endB L[k]) = none → parseL s.data.toList = none := fun h => by
          rw [hn.out]
          refine allR_none L L[k] (List.getElem_mem hlt) ?_
          rw [rangeL]
          rcases h with h | h
          · rw [h]; rfl
          · rw [h]; cases oneL (endA L[k]) <;> rfl
        unfold endA endB at hyes hno
        generalize mkB L[k] = X at hcw hcut
        obtain ⟨⟨ea, b0, ok⟩, hC⟩ : ∃ C, Lib.cut L[k] [58] = C := ⟨_, rfl⟩
        rw [hC] at hcut hcl hyes hno
        clear hC hcell htk
        dsimp only at hcut hcl hyes hno
        replace hcut : Hid (Calls Tryd.prog 28 #[.string X, .string ⟨#[58]⟩] wr fun e w' => e = .returned (.tuple #[.string (mkB ea), .string (mkB b0), .bool ok]) ∧ ∃ n, w' = wr.drewN n) := Lib.hid hcut
        obtain ⟨eb, heb, hebl⟩ : ∃ eb, eb = (if ok = true then b0 else ea) ∧ eb.length ≤ 1048576 := ⟨_, rfl, by split <;> omega⟩
        rw [← heb] at hyes hno
        have hea : ea.length ≤ 1048576 := by omega
        have hoa := fun W (h : Gr W) => one_any (mkB ea) (by show ea.length ≤ _; omega) W h.1 h.2.1
        have hob := fun W (h : Gr W) => one_any (mkB eb) (by show eb.length ≤ _; omega) W h.1 h.2.1
        rw [mkB_list] at hoa hob
        replace hoa := Lib.hid hoa
        replace hob := Lib.hid hob
        replace hyes := Lib.hid hyes
        replace hno := Lib.hid hno
        have hgr := Lib.hid (hg1.out.later hb.out)
        clear hcl hXs hea hebl hmr
        cases ok
        all_goals (
          subst heb
          go_wp2_with fail
          refine hcut.out.mono ?_
          rintro e w2 ⟨rfl, n2, rfl⟩
          have hb2 := Lib.hid (below_drewN hb.out n2)
          have ho2 := Lib.hid (hown.out.below (below_drewN (Below.refl _ _) n2))
          have hg2 := Lib.hid (hgr.out.drewN n2)
          clear hcut hcw hown hb hgr
          generalize wr.drewN n2 = w2 at hb2 ho2 hg2 ⊢
          go_wp2_with fail
          refine (hoa.out _ hg2.out).mono ?_
          rintro e w3 ⟨x, okx, rfl, hx, hb3⟩
          have hg3 := Lib.hid (hg2.out.later hb3.out)
          have ho3 := Lib.hid (ho2.out.below hb3.out)
          have hb3' := Lib.hid (hb2.out.trans (hb3.out.mono hb2.out.size))
          clear hg2 ho2 hb2 hb3 hoa
          go_wp2_with fail
          refine (hob.out _ hg3.out).mono ?_
          rintro e w4 ⟨y, oky, rfl, hy, hb4⟩
          have ho4 := Lib.hid (ho3.out.below hb4.out)
          have hb4' := Lib.hid (hb3'.out.trans (hb4.out.mono hb3'.out.size))
          clear hg3 ho3 hb3' hb4 hob
          cases okx
          · have hq := Lib.hid (hno.out (.inl hx.out))
            clear hyes hno hx hy
            go_wp2_with fail
            go_ret2
            exact parse_no hq.out (hb1.out.trans (hb4'.out.mono hb1.out.size))
          · cases oky
            · have hq := Lib.hid (hno.out (.inr hy.out))
              clear hyes hno hx hy
              go_wp2_with fail
              go_ret2
              exact parse_no hq.out (hb1.out.trans (hb4'.out.mono hb1.out.size))
            · have hq := Lib.hid (hyes.out x y hx.out hy.out)
              have hz4 := hb4'.out.size
              clear hyes hno hx hy
              go_wp2_with (at_builtin; refine wpList_append_range (W := w4) rfl _ _ rfl w1.heap.size u5 rs x y rfl rfl ho4.out (by omega) hz4 ?_)
              intro v5 w5 ho5 hb5
              have hb5' := Lib.hid (hb4'.out.trans hb5)
              replace ho5 := Lib.hid ho5
              clear ho4 hb5 hb4'
              go_wp2_with fail
              go_roundw
              case rel => exact ⟨k + 1, rs ++ [(x, y)], by go_num, by omega, by simp [hrl], hq, ho5, hb5'⟩
              case measure => simp [intOf] <;> omega)
      · obtain rfl : k = L.length := by omega
        have hq : Hid (parseL s.data.toList = some rs) := Lib.hid (by rw [hn.out, ← hrs.out, List.take_length])
        go_wp2_with fail
        go_ret2
        exact parse_yes hq.out hown.out.ranges (hb1.out.trans (hb.out.mono hb1.out.size))
end Go.Proofs.YtifpmcfadmmkiaaDoor
