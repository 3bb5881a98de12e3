/- The document's Fields: walked. -/
import Derived.Test.YtgijkpbeokclkaaDoorPaO
namespace Go.Proofs.YtgijkpbeokclkaaDoor
open Go.RowKit

def encN (p : List UInt8 × List UInt8) : List Value := [encStr p.1, encStr p.2]
def OwnN (w : World) (B : Nat) (v : Value) (l : List (List UInt8 × List UInt8)) : Prop := w.ownsRow B 29 2 v l.length (l.flatMap encN)
theorem named_info : (Tryd.prog.info? 29).map (fun i => (i.zero, i.size, i.bytes)) = some (some (.agg #[.string ⟨#[]⟩, .string ⟨#[]⟩]), 2, 32) := by kernel_rfl
theorem OwnN.nil (w : World) (B : Nat) : OwnN w B (.slice none 0 0) [] := World.ownsRow_nil _ _ _ _
theorem OwnN.below {w w' : World} {B : Nat} {v : Value} {l : List (List UInt8 × List UInt8)} (h : OwnN w B v l) (hb : Below w.heap.size w w') : OwnN w' B v l :=
  World.ownsRow.kept (row := none) h ⟨hb.os, hb.tape, hb.output, hb.size, fun k hk _ => hb.block k hk⟩ (by cases hv : v.ownBlock <;> simp)
theorem OwnN.lt {w : World} {B : Nat} {v : Value} {l : List (List UInt8 × List UInt8)} (h : OwnN w B v l) : ∀ k, v.ownBlock = some k → B ≤ k ∧ k < w.heap.size := World.ownsRow.lt h
theorem OwnN.mono {w : World} {B B' : Nat} {v : Value} {l : List (List UInt8 × List UInt8)} (h : OwnN w B v l) (hb : B' ≤ B) : OwnN w B' v l :=
  ⟨h.1, h.2.imp id fun ⟨g, cap, cur, h1, h2, h3⟩ => ⟨g, cap, cur, h1, Nat.le_trans hb h2, h3⟩⟩
theorem flat_encN (l : List (List UInt8 × List UInt8)) : (l.flatMap encN).length = l.length * 2 := by
  induction l with
  | nil => rfl
  | cons x r ih => rw [List.flatMap_cons, List.length_append, ih, List.length_cons]; show 2 + _ = _; omega
/-- 'append(v, Named{a, b})' -/
theorem wpList_append_named {w : World} {ops : Array Oper} {rest : List Oper} {o : Oper} {a : Act} {Q : Exit → Act → World → Prop} (hgd : o.guard = none) (s x : Operand)
    (ho : o.op = .call { callee := .builtin .append, args := #[s, x], argTypes := #[23, 23] }) (B : Nat) (v : Value) (l : List (List UInt8 × List UInt8)) (g : Nat) (y z : ByteArray)
    (hs : a.eval s = v) (hx : a.eval x = .slice (some ⟨g, 0, none⟩) 1 1) (hown : OwnN w B v l) (hc0 : w.cell? ⟨g, 0, none⟩ = some (.string y)) (hc1 : w.cell? ⟨g, 1, none⟩ = some (.string z)) (hg : g < w.heap.size) (hlen : (l.length + 1) * 32 ≤ 140737488355328) (hbase : B ≤ w.heap.size)
    (h : ∀ v' w', OwnN w' B v' (l ++ [(y.data.toList, z.data.toList)]) → w.grownBy w' v.ownBlock → wpList Tryd.prog ops Q rest (a.put o.dst v') w') : wpList Tryd.prog ops Q (o :: rest) a w := by
  refine wpList_append_rd hgd s x 23 ho B 29 _ 2 32 Tryd.underlying23 named_info rfl (by decide) v _ l.length 1 (l.flatMap encN) [.string y, .string z] hs hx hown ⟨_, 1, rfl, .inr ⟨g, 0, rfl, hg, Nat.le_refl _, fun i u hu => ?_⟩⟩ rfl (fun u hu => ?_) (by unfold maxLen; omega) hlen hbase ?_
  · match i, hu with
    | 0, hu => simp at hu; subst hu; simpa using hc0
    | 1, hu => simp at hu; subst hu; simpa using hc1
  · have : u = .string y ∨ u = .string z := by simpa using hu
    rcases this with rfl | rfl <;> rfl
  · intro v' w' ho' hg' _
    refine h v' w' ?_ hg'
    unfold OwnN
    rw [List.length_append, List.flatMap_append]
    exact ho'
/-- what the document's Fields hands back -/
def FieldsRet (m : List UInt8) (w : World) (e : Ending) (w' : World) : Prop := ∃ v, e = .returned v ∧ Hid (OwnN w' w.heap.size v (fieldsL m)) ∧ Hid (Below w.heap.size w w')
set_option maxRecDepth 100000 in
set_option maxHeartbeats 4000000 in
theorem refFields_any (s : ByteArray) (hs : s.size ≤ 4194304) (w : World) :
    Calls Tryd.prog 9 #[.string s] w (FieldsRet s.data.toList w) := by
  have hsp := Lib.hid (refSplit_any s (by omega) w)
  have hbl := Lib.hid blank_any
  have hfd : Hid (fieldsL s.data.toList = (unfL (linesL (splitM s.data.toList).1)).filterMap fieldL) := Lib.hid rfl
  have hsl := split_len s.data.toList
  rw [show s.data.toList.length = s.size from rfl] at hsl
  go_enter Tryd.func9, Tryd.ntmps9
  go_wp2_with fail
  refine hsp.out.mono ?_
  rintro e w1 ⟨h, t, rfl, hht, dr, rfl⟩
  have hb1 : Hid (Below w.heap.size w (w.drewN dr)) := Lib.hid (below_drewN (Below.refl _ _) dr)
  have hhs : h.size ≤ 4194304 := by rw [size_of_list hht.out.1]; omega
  have hhl : Hid (h.data.toList.length = h.size) := Lib.hid rfl
  rw [← hht.out.1] at hfd
  have hat := Lib.hid (fun k (hk : k ≤ h.size) w => (decide_eq_true hk ▸ at_any h ⟨#[13, 10]⟩ k (by omega) (by decide) (by omega) w : Calls Tryd.prog 22 #[.string h, .int .i64 k, .string ⟨#[13, 10]⟩] w fun e w' => e = .returned (.bool (true && atL h.data.toList k crlf)) ∧ w = w'))
  clear hsp hht hsl
  generalize w.drewN dr = w1 at hb1 ⊢
  go_wp2_with fail
  go_loopw [5, 6, 7] (fun vo vf vk wr => ∃ (k f : Nat) (out : List (List UInt8)) (ao : Option Addr) (cap : Nat), vk = .int .i64 k ∧ vf = .int .i64 f ∧ vo = .slice ao out.length cap ∧ k ≤ h.size + 1 ∧ Hid (OutSz h.size k f out) ∧ Hid (CutInv h.data.toList k f out) ∧ Hid (OwnT wr w1.heap.size (.slice ao out.length cap) out) ∧ Hid (Below w1.heap.size w1 wr)) (fun _ _ vk _ => h.size + 1 - (intOf vk).toNat)
  case atStart => exact ⟨0, 0, [], none, 0, rfl, rfl, rfl, Nat.zero_le _, Lib.hid ⟨Nat.zero_le _, Nat.zero_le _, Nat.zero_le _⟩, Lib.hid (CutInv.start _), Lib.hid (OwnT.nil _ _), Lib.hid (Below.refl _ _)⟩
  case round =>
    obtain ⟨k, f, out, ao, cap, rfl, rfl, rfl, hk, hos, hci, hown, hb⟩ := hrel
    by_cases hlt : k < h.size
    · have hat1 := hat.out k (by omega) wr
      rw [Bool.true_and] at hat1
      cases hA : atL h.data.toList k crlf
      · rw [hA] at hat1
        replace hat1 := Lib.hid hat1
        have hn := Lib.hid (hci.out.skip (by rw [hhl.out]; exact hlt) (.inl hA))
        have hn2 : Hid (OutSz h.size (k + 1) f out) := Lib.hid ⟨by have := hos.out.1; omega, hos.out.2.1, by omega⟩
        replace hA := Lib.hid hA
        go_wp2_with fail
        refine hat1.out.mono ?_
        rintro e w' ⟨rfl, rfl⟩
        clear hat1
        go_wp2_with fail
        go_roundw
        case rel => exact ⟨k + 1, f, out, ao, cap, by go_num, rfl, rfl, by omega, hn2, hn, hown, hb⟩
        case measure => simp [intOf] <;> omega
      · rw [hA] at hat1
        replace hat1 := Lib.hid hat1
        by_cases hkf : k < f
        · have hn := Lib.hid (hci.out.skip (by rw [hhl.out]; exact hlt) (.inr hkf))
          have hn2 : Hid (OutSz h.size (k + 1) f out) := Lib.hid ⟨by have := hos.out.1; omega, hos.out.2.1, by omega⟩
          replace hA := Lib.hid hA
          go_wp2_with fail
          refine hat1.out.mono ?_
          rintro e w' ⟨rfl, rfl⟩
          clear hat1
          go_wp2_with fail
          go_roundw
          case rel => exact ⟨k + 1, f, out, ao, cap, by go_num, rfl, rfl, by omega, hn2, hn, hown, hb⟩
          case measure => simp [intOf] <;> omega
        · have hfk : f ≤ k := by omega
          have hfh : f ≤ h.size := by omega
          clear hkf
          obtain ⟨X, hX⟩ : ∃ X, h.extract f k = X := ⟨_, rfl⟩
          have hXl : X.data.toList = (h.data.toList.drop f).take (k - f) := by rw [← hX]; exact ext_list h f k
          have hXs : X.size = k - f := by rw [← hX, ByteArray.size_extract]; omega
          have hn := hci.out.cut (by rw [hhl.out]; exact hlt) hfk hA
          rw [← hXl] at hn
          have hn2 : Hid (OutSz h.size (k + 1) (k + 2) (unfStep out X.data.toList)) := Lib.hid (by
            have h1 := unfStep_flat out X.data.toList
            have h2 := hos.out
            refine ⟨by have := h2.1; omega, ?_, by omega⟩
            rw [h1.1, List.length_append, show X.data.toList.length = X.size from rfl, hXs]
            have := h2.2.1; omega)
          have hol : out.length ≤ k := hos.out.1
          have hsz := hb.out.size
          replace hn := Lib.hid hn
          clear hXl
          replace hA := Lib.hid hA
          by_cases ho0 : out.length = 0
          · have hnA : Hid (unfStep out X.data.toList = out ++ [X.data.toList]) := Lib.hid (unfStep_no (fun h => h.1 (List.eq_nil_of_length_eq_zero ho0)))
            have hown0 : OwnT wr w1.heap.size (.slice ao 0 cap) out := by
              have h5 := hown.out
              rwa [ho0] at h5
            have hownZ := Lib.hid hown0
            clear hown0 hXs
            go_wp2_with fail
            refine hat1.out.mono ?_
            rintro e w' ⟨rfl, rfl⟩
            clear hat1
            go_wp2_with (at_builtin; first | refine wpList_append_text rfl (.tmp 69) (.tmp 71) rfl w1.heap.size _ out wr.heap.size X rfl rfl (hownZ.out.below ((Below.refl _ _).alloc (Nat.le_refl _) _)) (by simp) (by simp) (by omega) (by simp; omega) ?_ | refine wpList_append_text rfl (.tmp 69) (.tmp 71) rfl w1.heap.size _ out wr.heap.size X rfl rfl (hown.out.below ((Below.refl _ _).alloc (Nat.le_refl _) _)) (by simp) (by simp) (by omega) (by simp; omega) ?_)
            intro v4 w4 ho4 hg4 hv4
            have hb4 := Lib.hid ((hb.out.alloc hb.out.size _).grown hg4 (by simp; omega) (fun k hk => (by first | exact (hown.out.lt k hk).1 | exact (hownZ.out.lt k hk).1)))
            rw [← hnA.out] at ho4
            obtain ⟨ao5, cap5, rfl⟩ := ho4.form
            replace ho4 := Lib.hid ho4
            clear hg4 hv4
            go_wp2_with fail
            go_roundw
            case rel => exact ⟨k + 1, k + 2, _, ao5, cap5, by go_num, by go_num, rfl, by omega, hn2, hn, ho4, hb4⟩
            case measure => simp [intOf] <;> omega

          · by_cases hX0 : k = f
            · have hXe : X.size = 0 := by omega
              have hnA : Hid (unfStep out X.data.toList = out ++ [X.data.toList]) := Lib.hid (unfStep_no (by
                rintro ⟨_, h⟩
                rw [List.eq_nil_of_length_eq_zero (show X.data.toList.length = 0 from hXe)] at h
                cases h))
              clear hX0 hXs
              go_wp2_with fail
              refine hat1.out.mono ?_
              rintro e w' ⟨rfl, rfl⟩
              clear hat1
              go_wp2_with (at_builtin; refine wpList_append_text rfl (.tmp 69) (.tmp 71) rfl w1.heap.size _ out wr.heap.size X rfl rfl (hown.out.below ((Below.refl _ _).alloc (Nat.le_refl _) _)) (by simp) (by simp) (by omega) (by simp; omega) ?_)
              intro v4 w4 ho4 hg4 hv4
              have hb4 := Lib.hid ((hb.out.alloc hb.out.size _).grown hg4 (by simp; omega) (fun k hk => (hown.out.lt k hk).1))
              rw [← hnA.out] at ho4
              obtain ⟨ao5, cap5, rfl⟩ := ho4.form
              replace ho4 := Lib.hid ho4
              clear hg4 hv4
              go_wp2_with fail
              go_roundw
              case rel => exact ⟨k + 1, k + 2, _, ao5, cap5, by go_num, by go_num, rfl, by omega, hn2, hn, ho4, hb4⟩
              case measure => simp [intOf] <;> omega

            · have hX1 : 0 < X.size := by omega
              have hgo : goesOn X.data.toList = isBl X[0] := by
                have := drop_cons X 0 hX1
                rw [List.drop_zero] at this
                rw [this]; rfl
              cases hB : isBl X[0]
              · have hnA : Hid (unfStep out X.data.toList = out ++ [X.data.toList]) := Lib.hid (unfStep_no (fun h => by rw [hgo, hB] at h; cases h.2))
                clear hgo
                go_wp2_with fail
                refine hat1.out.mono ?_
                rintro e w' ⟨rfl, rfl⟩
                clear hat1
                go_wp2_with fail
                refine (hbl.out _ wr).mono ?_
                rintro e w' ⟨rfl, rfl⟩
                rw [hB]
                replace hB := Lib.hid hB
                go_wp2_with (at_builtin; refine wpList_append_text rfl (.tmp 69) (.tmp 71) rfl w1.heap.size _ out wr.heap.size X rfl rfl (hown.out.below ((Below.refl _ _).alloc (Nat.le_refl _) _)) (by simp) (by simp) (by omega) (by simp; omega) ?_)
                intro v4 w4 ho4 hg4 hv4
                have hb4 := Lib.hid ((hb.out.alloc hb.out.size _).grown hg4 (by simp; omega) (fun k hk => (hown.out.lt k hk).1))
                rw [← hnA.out] at ho4
                obtain ⟨ao5, cap5, rfl⟩ := ho4.form
                replace ho4 := Lib.hid ho4
                clear hg4 hv4
                go_wp2_with fail
                go_roundw
                case rel => exact ⟨k + 1, k + 2, _, ao5, cap5, by go_num, by go_num, rfl, by omega, hn2, hn, ho4, hb4⟩
                case measure => simp [intOf] <;> omega

              · obtain ⟨j, hj⟩ : ∃ j, out.length = j + 1 := ⟨out.length - 1, by omega⟩
                obtain ⟨g, rfl, hgB, hgl, hcap⟩ := hown.out.pos (by omega)
                have hj' : j < out.length := by omega
                have hYc : wr.cell? ⟨g, j, none⟩ = some (.string (mkB out[j])) := by
                  rw [World.ownsRow.cellAt hown.out j (by omega)]
                  rw [List.getElem?_map, List.getElem?_eq_getElem hj']; rfl
                have hYf := World.ownsRow.frozenAt hown.out j
                have hYs : (mkB out[j]).size ≤ h.size := by have := mem_flat_len (List.getElem_mem hj'); have := hos.out.2.1; show out[j].length ≤ _; omega
                have eU : unfStep out X.data.toList = out.set j (mkB out[j] ++ X).data.toList := by
                  rw [unfStep_yes (by intro e; rw [e] at ho0; exact ho0 rfl) (by rw [hgo]; exact hB), hj, toList_app]
                  simp [List.getD, hj', mkB]
                have hlen2 : (unfStep out X.data.toList).length = j + 1 := by rw [eU, List.length_set, hj]
                have ho4 : Hid (OwnT (wr.setCell ⟨g, j, none⟩ (.string (mkB out[j] ++ X))) w1.heap.size (.slice (some ⟨g, 0, none⟩) (j + 1) cap) (unfStep out X.data.toList)) := Lib.hid (by
                  have h5 := hown.out.set j (mkB out[j] ++ X)
                  rw [← eU] at h5
                  rw [hj] at h5
                  exact h5)
                have hb4 : Hid (Below w1.heap.size w1 (wr.setCell ⟨g, j, none⟩ (.string (mkB out[j] ++ X)))) := Lib.hid (hb.out.setCell (p := ⟨g, j, none⟩) hgB _)
                replace hlen2 := Lib.hid hlen2
                rw [hj] at hcap ⊢
                rw [hj] at hown
                replace hX0 := Lib.hid hX0
                replace ho0 := Lib.hid ho0
                generalize mkB out[j] = Y at hYc hYs ho4 hb4
                clear eU hj' hown
                go_wp2_with fail
                refine hat1.out.mono ?_
                rintro e w' ⟨rfl, rfl⟩
                clear hat1
                go_wp2_with fail
                refine (hbl.out _ wr).mono ?_
                rintro e w' ⟨rfl, rfl⟩
                rw [hB]
                replace hB := Lib.hid hB
                clear hX0 ho0
                go_wp2_with fail
                go_roundw
                case rel => exact ⟨k + 1, k + 2, _, _, cap, by go_num, by go_num, by rw [hlen2.out], by omega, hn2, hn, by rw [hlen2.out]; exact ho4, hb4⟩
                case measure => simp [intOf] <;> omega
    · by_cases heq : k = h.size
      · obtain rfl := heq
        have hfk := (hci.out.head (by rw [hhl.out]; exact Nat.le_refl _)).1
        rw [hhl.out] at hfk
        obtain ⟨X, hX⟩ : ∃ X, h.extract f h.size = X := ⟨_, rfl⟩
        have hXl : X.data.toList = (h.data.toList.drop f).take (h.size - f) := by rw [← hX]; exact ext_list h f h.size
        have hXs : X.size = h.size - f := by rw [← hX, ByteArray.size_extract]; omega
        have hn := hci.out.last (by rw [hhl.out])
        rw [← hXl] at hn
        have hn2 : Hid (OutSz h.size (h.size + 1) (h.size + 2) (unfStep out X.data.toList)) := Lib.hid (by
          have h1 := unfStep_flat out X.data.toList
          have h2 := hos.out
          refine ⟨by have := h2.1; omega, ?_, by omega⟩
          rw [h1.1, List.length_append, show X.data.toList.length = X.size from rfl, hXs]
          have := h2.2.1; omega)
        have hol : out.length ≤ h.size := hos.out.1
        have hsz := hb.out.size
        replace hn := Lib.hid hn
        clear hXl
        by_cases ho0 : out.length = 0
        · have hnA : Hid (unfStep out X.data.toList = out ++ [X.data.toList]) := Lib.hid (unfStep_no (fun h => h.1 (List.eq_nil_of_length_eq_zero ho0)))
          have hown0 : OwnT wr w1.heap.size (.slice ao 0 cap) out := by
            have h5 := hown.out
            rwa [ho0] at h5
          have hownZ := Lib.hid hown0
          clear hown0 hXs
          go_wp2_with (at_builtin; first | refine wpList_append_text rfl (.tmp 69) (.tmp 71) rfl w1.heap.size _ out wr.heap.size X rfl rfl (hownZ.out.below ((Below.refl _ _).alloc (Nat.le_refl _) _)) (by simp) (by simp) (by omega) (by simp; omega) ?_ | refine wpList_append_text rfl (.tmp 69) (.tmp 71) rfl w1.heap.size _ out wr.heap.size X rfl rfl (hown.out.below ((Below.refl _ _).alloc (Nat.le_refl _) _)) (by simp) (by simp) (by omega) (by simp; omega) ?_)
          intro v4 w4 ho4 hg4 hv4
          have hb4 := Lib.hid ((hb.out.alloc hb.out.size _).grown hg4 (by simp; omega) (fun j hj => (by first | exact (hown.out.lt j hj).1 | exact (hownZ.out.lt j hj).1)))
          rw [← hnA.out] at ho4
          obtain ⟨ao5, cap5, rfl⟩ := ho4.form
          replace ho4 := Lib.hid ho4
          clear hg4 hv4
          go_wp2_with fail
          go_roundw
          case rel => exact ⟨h.size + 1, h.size + 2, _, ao5, cap5, by go_num, by go_num, rfl, by omega, hn2, hn, ho4, hb4⟩
          case measure => simp [intOf] <;> omega

        · by_cases hX0 : h.size = f
          · have hXe : X.size = 0 := by omega
            have hnA : Hid (unfStep out X.data.toList = out ++ [X.data.toList]) := Lib.hid (unfStep_no (by
              rintro ⟨_, h⟩
              rw [List.eq_nil_of_length_eq_zero (show X.data.toList.length = 0 from hXe)] at h
              cases h))
            clear hX0 hXs
            go_wp2_with (at_builtin; refine wpList_append_text rfl (.tmp 69) (.tmp 71) rfl w1.heap.size _ out wr.heap.size X rfl rfl (hown.out.below ((Below.refl _ _).alloc (Nat.le_refl _) _)) (by simp) (by simp) (by omega) (by simp; omega) ?_)
            intro v4 w4 ho4 hg4 hv4
            have hb4 := Lib.hid ((hb.out.alloc hb.out.size _).grown hg4 (by simp; omega) (fun j hj => (hown.out.lt j hj).1))
            rw [← hnA.out] at ho4
            obtain ⟨ao5, cap5, rfl⟩ := ho4.form
            replace ho4 := Lib.hid ho4
            clear hg4 hv4
            go_wp2_with fail
            go_roundw
            case rel => exact ⟨h.size + 1, h.size + 2, _, ao5, cap5, by go_num, by go_num, rfl, by omega, hn2, hn, ho4, hb4⟩
            case measure => simp [intOf] <;> omega

          · have hX1 : 0 < X.size := by omega
            have hgo : goesOn X.data.toList = isBl X[0] := by
              have := drop_cons X 0 hX1
              rw [List.drop_zero] at this
              rw [this]; rfl
            cases hB : isBl X[0]
            · have hnA : Hid (unfStep out X.data.toList = out ++ [X.data.toList]) := Lib.hid (unfStep_no (fun h => by rw [hgo, hB] at h; cases h.2))
              clear hgo
              go_wp2_with fail
              refine (hbl.out _ wr).mono ?_
              rintro e w' ⟨rfl, rfl⟩
              rw [hB]
              replace hB := Lib.hid hB
              go_wp2_with (at_builtin; refine wpList_append_text rfl (.tmp 69) (.tmp 71) rfl w1.heap.size _ out wr.heap.size X rfl rfl (hown.out.below ((Below.refl _ _).alloc (Nat.le_refl _) _)) (by simp) (by simp) (by omega) (by simp; omega) ?_)
              intro v4 w4 ho4 hg4 hv4
              have hb4 := Lib.hid ((hb.out.alloc hb.out.size _).grown hg4 (by simp; omega) (fun j hj => (hown.out.lt j hj).1))
              rw [← hnA.out] at ho4
              obtain ⟨ao5, cap5, rfl⟩ := ho4.form
              replace ho4 := Lib.hid ho4
              clear hg4 hv4
              go_wp2_with fail
              go_roundw
              case rel => exact ⟨h.size + 1, h.size + 2, _, ao5, cap5, by go_num, by go_num, rfl, by omega, hn2, hn, ho4, hb4⟩
              case measure => simp [intOf] <;> omega

            · obtain ⟨j, hj⟩ : ∃ j, out.length = j + 1 := ⟨out.length - 1, by omega⟩
              obtain ⟨g, rfl, hgB, hgl, hcap⟩ := hown.out.pos (by omega)
              have hj' : j < out.length := by omega
              have hYc : wr.cell? ⟨g, j, none⟩ = some (.string (mkB out[j])) := by
                rw [World.ownsRow.cellAt hown.out j (by omega)]
                rw [List.getElem?_map, List.getElem?_eq_getElem hj']; rfl
              have hYf := World.ownsRow.frozenAt hown.out j
              have hYs : (mkB out[j]).size ≤ h.size := by have := mem_flat_len (List.getElem_mem hj'); have := hos.out.2.1; show out[j].length ≤ _; omega
              have eU : unfStep out X.data.toList = out.set j (mkB out[j] ++ X).data.toList := by
                rw [unfStep_yes (by intro e; rw [e] at ho0; exact ho0 rfl) (by rw [hgo]; exact hB), hj, toList_app]
                simp [List.getD, hj', mkB]
              have hlen2 : (unfStep out X.data.toList).length = j + 1 := by rw [eU, List.length_set, hj]
              have ho4 : Hid (OwnT (wr.setCell ⟨g, j, none⟩ (.string (mkB out[j] ++ X))) w1.heap.size (.slice (some ⟨g, 0, none⟩) (j + 1) cap) (unfStep out X.data.toList)) := Lib.hid (by
                have h5 := hown.out.set j (mkB out[j] ++ X)
                rw [← eU] at h5
                rw [hj] at h5
                exact h5)
              have hb4 : Hid (Below w1.heap.size w1 (wr.setCell ⟨g, j, none⟩ (.string (mkB out[j] ++ X)))) := Lib.hid (hb.out.setCell (p := ⟨g, j, none⟩) hgB _)
              replace hlen2 := Lib.hid hlen2
              rw [hj] at hcap ⊢
              rw [hj] at hown
              replace hX0 := Lib.hid hX0
              replace ho0 := Lib.hid ho0
              generalize mkB out[j] = Y at hYc hYs ho4 hb4
              clear eU hj' hown
              go_wp2_with fail
              refine (hbl.out _ wr).mono ?_
              rintro e w' ⟨rfl, rfl⟩
              rw [hB]
              replace hB := Lib.hid hB
              clear hX0 ho0
              go_wp2_with fail
              go_roundw
              case rel => exact ⟨h.size + 1, h.size + 2, _, _, cap, by go_num, by go_num, by rw [hlen2.out], by omega, hn2, hn, by rw [hlen2.out]; exact ho4, hb4⟩
              case measure => simp [intOf] <;> omega
      · have hfin := hci.out.done (by rw [hhl.out]; omega)
        have hfs := flat_len _ h.data.toList (Nat.le_refl _)
        have hus := unfL_flat (linesL h.data.toList)
        rw [← hfin] at hus hfd
        rw [hhl.out] at hfs
        have hls : out.flatten.length ≤ h.size := by rw [hus.1]; exact hfs.1
        have hln : out.length ≤ h.size + 1 := by have := hus.2; have := hfs.2; omega
        replace hfd : Hid (fieldsL s.data.toList = out.filterMap fieldL) := hfd
        have hkk : h.size < k := by omega
        have hwb := hb.out.size
        generalize wr = w2 at hown hb hwb ⊢
        clear hfin hfs hus hos hci hlt heq hat
        go_wp2_with fail
        have hkd : decide (k ≤ h.size) = false := decide_eq_false (by omega)
        try rw [hkd]
        clear hkk hkd
        go_loopw [9, 10] (fun vo vi wr => ∃ (i : Nat) (v2 : Value), vi = .int .i64 i ∧ vo = v2 ∧ i ≤ out.length ∧ Hid (OwnN wr w2.heap.size v2 ((out.take i).filterMap fieldL)) ∧ Hid (Below w2.heap.size w2 wr)) (fun _ vi _ => out.length - (intOf vi).toNat)
        case atStart => exact ⟨0, _, rfl, rfl, Nat.zero_le _, Lib.hid (OwnN.nil _ _), Lib.hid (Below.refl _ _)⟩
        case round =>
          obtain ⟨i, v2, rfl, rfl, hi, hown2, hb2⟩ := hrel
          by_cases hil : i < out.length
          · obtain ⟨g, rfl, hgB, hgl, hcap⟩ := hown.out.pos (by omega)
            have hcw : wr.cell? ⟨g, i, none⟩ = some (.string (mkB out[i])) := (hb2.out.cell (p := ⟨g, i, none⟩) hgl).trans (by
              rw [World.ownsRow.cellAt hown.out i (by omega)]
              rw [List.getElem?_map, List.getElem?_eq_getElem hil]; rfl)
            have hXs : (mkB out[i]).size ≤ h.size := by have := mem_flat_len (List.getElem_mem hil); show out[i].length ≤ _; omega
            have hnx := Lib.hid (fm_succ hil)
            have hXl : Hid ((mkB out[i]).data.toList = out[i]) := Lib.hid rfl
            have hal : ((out.take i).filterMap fieldL).length ≤ i := by have := fm_len (out.take i); rw [List.length_take] at this; omega
            have hsz2 := hb2.out.size
            generalize (out.take i).filterMap fieldL = acc at hown2 hnx hal
            generalize mkB out[i] = X at hcw hXs hXl
            rw [← hXl.out] at hnx
            go_wp2_with fail
            go_loop [11] (fun vk => ∃ j : Nat, vk = .int .i64 j ∧ j ≤ X.size ∧ Hid (∀ q, q < j → X.data.toList[q]? ≠ some 58)) (fun vk => X.size - (intOf vk).toNat)
            case atStart => exact ⟨0, rfl, Nat.zero_le _, Lib.hid (fun q hq => by omega)⟩
            case round =>
              obtain ⟨j, rfl, hj, hno⟩ := hrel
              by_cases hjl : j < X.size
              · by_cases hc : X[j] = 58
                · have hc1 : ((X[j].toNat : Int) == 58) = true := by rw [hc]; rfl
                  have hfl := Lib.hid (field_at (l := X.data.toList) hjl hno.out hc)
                  clear hno
                  replace hc := Lib.hid hc
                  by_cases hj0 : j = 0
                  · subst hj0
                    rw [if_pos rfl] at hfl
                    go_wp2_with fail
                    go_roundw
                    case rel => exact ⟨i + 1, _, by go_num, rfl, by omega, by rw [hnx.out, hfl.out, List.append_nil]; exact hown2, hb2⟩
                    case measure => simp [intOf] <;> omega

                  · rw [if_neg hj0] at hfl
                    have hj1 : ((j : Int) == 0) = false := beq_eq_false_iff_ne.2 (by omega)
                    have hj2 : ((j : Int) == (X.size : Int)) = false := beq_eq_false_iff_ne.2 (by omega)
                    replace hj0 := Lib.hid hj0
                    go_wp2_with fail
                    go_loop [12] (fun vv => ∃ v : ByteArray, vv = .string v ∧ v.size ≤ 4194304 ∧ Hid (TrimA (X.data.toList.drop (j + 1)) v.data.toList)) (fun vv => strLen vv)
                    case atStart => exact ⟨_, rfl, by rw [ByteArray.size_extract]; omega, Lib.hid (by rw [Lib.extract_to_end]; exact TrimA.start _)⟩
                    case round =>
                      obtain ⟨v, rfl, hvs, hta⟩ := hrel
                      by_cases hv0 : v.size = 0
                      · have hst := Lib.hid (hta.out.turn (.inl (List.eq_nil_of_length_eq_zero hv0)))
                        clear hta
                        go_wp2_with fail
                        go_loop [12] (fun vv => ∃ v : ByteArray, vv = .string v ∧ v.size ≤ 4194304 ∧ Hid (TrimB (X.data.toList.drop (j + 1)) v.data.toList)) (fun vv => strLen vv)
                        case atStart => exact ⟨_, rfl, hvs, hst⟩
                        case round =>
                          clear hst hvs
                          obtain ⟨v, rfl, hvs, htb⟩ := hrel
                          by_cases hv0 : v.size = 0
                          · have htv := htb.out.done (.inl (List.eq_nil_of_length_eq_zero hv0))
                            have hfd2 : Hid ((out.take (i + 1)).filterMap fieldL = acc ++ [(X.data.toList.take j, v.data.toList)]) := Lib.hid (by rw [hnx.out, hfl.out, htv])
                            clear htv
                            go_wp2_with (at_builtin; refine wpList_append_named rfl (.tmp 143) (.tmp 152) rfl w2.heap.size _ acc wr.heap.size (X.extract 0 j) v rfl rfl (hown2.out.below ((Below.refl _ _).alloc (Nat.le_refl _) _)) (by simp) (by simp) (by simp) (by omega) (by simp; omega) ?_)
                            intro v4 w4 ho4 hg4
                            have hb4 := Lib.hid ((hb2.out.alloc hb2.out.size _).grown hg4 (by simp; omega) (fun j hj => (hown2.out.lt j hj).1))
                            rw [← hfd2.out] at ho4
                            replace ho4 := Lib.hid ho4
                            clear hg4
                            go_wp2_with fail
                            go_roundw
                            case rel => exact ⟨i + 1, _, by go_num, rfl, by omega, ho4, hb4⟩
                            case measure => simp [intOf] <;> omega

                          · have hv1 : 0 < v.size := by omega
                            have hll := last_list v hv1
                            cases hB : isBl v[v.size - 1]
                            · have htv := htb.out.done (.inr ⟨_, _, hll, hB⟩)
                              clear hll
                              have hfd1 := Lib.hid htv
                              clear htv
                              go_wp2_with fail
                              refine (hbl.out _ wr).mono ?_
                              rintro e w' ⟨rfl, rfl⟩
                              rw [hB]
                              replace hB := Lib.hid hB
                              have htv := hfd1.out
                              have hfd2 : Hid ((out.take (i + 1)).filterMap fieldL = acc ++ [(X.data.toList.take j, v.data.toList)]) := Lib.hid (by rw [hnx.out, hfl.out, htv])
                              clear htv
                              go_wp2_with (at_builtin; refine wpList_append_named rfl (.tmp 143) (.tmp 152) rfl w2.heap.size _ acc wr.heap.size (X.extract 0 j) v rfl rfl (hown2.out.below ((Below.refl _ _).alloc (Nat.le_refl _) _)) (by simp) (by simp) (by simp) (by omega) (by simp; omega) ?_)
                              intro v4 w4 ho4 hg4
                              have hb4 := Lib.hid ((hb2.out.alloc hb2.out.size _).grown hg4 (by simp; omega) (fun j hj => (hown2.out.lt j hj).1))
                              rw [← hfd2.out] at ho4
                              replace ho4 := Lib.hid ho4
                              clear hg4
                              go_wp2_with fail
                              go_roundw
                              case rel => exact ⟨i + 1, _, by go_num, rfl, by omega, ho4, hb4⟩
                              case measure => simp [intOf] <;> omega

                            · have hnb := Lib.hid (TrimB.next (by rw [← hll]; exact htb.out) hB)
                              clear hll
                              go_wp2_with fail
                              refine (hbl.out _ wr).mono ?_
                              rintro e w' ⟨rfl, rfl⟩
                              rw [hB]
                              replace hB := Lib.hid hB
                              go_wp2_with fail
                              go_round
                              case rel => exact ⟨_, rfl, by rw [ByteArray.size_extract]; omega, hnb⟩
                              case measure => simp [strLen] <;> omega

                      · have hv1 : 0 < v.size := by omega
                        have hll := head_list v hv1
                        cases hB : isBl v[0]
                        · have hst := Lib.hid (hta.out.turn (.inr ⟨_, _, hll, hB⟩))
                          clear hll hta
                          go_wp2_with fail
                          refine (hbl.out _ wr).mono ?_
                          rintro e w' ⟨rfl, rfl⟩
                          rw [hB]
                          replace hB := Lib.hid hB
                          go_wp2_with fail
                          go_loop [12] (fun vv => ∃ v : ByteArray, vv = .string v ∧ v.size ≤ 4194304 ∧ Hid (TrimB (X.data.toList.drop (j + 1)) v.data.toList)) (fun vv => strLen vv)
                          case atStart => exact ⟨_, rfl, hvs, hst⟩
                          case round =>
                            clear hst hvs
                            obtain ⟨v, rfl, hvs, htb⟩ := hrel
                            by_cases hv0 : v.size = 0
                            · have htv := htb.out.done (.inl (List.eq_nil_of_length_eq_zero hv0))
                              have hfd2 : Hid ((out.take (i + 1)).filterMap fieldL = acc ++ [(X.data.toList.take j, v.data.toList)]) := Lib.hid (by rw [hnx.out, hfl.out, htv])
                              clear htv
                              go_wp2_with (at_builtin; refine wpList_append_named rfl (.tmp 143) (.tmp 152) rfl w2.heap.size _ acc wr.heap.size (X.extract 0 j) v rfl rfl (hown2.out.below ((Below.refl _ _).alloc (Nat.le_refl _) _)) (by simp) (by simp) (by simp) (by omega) (by simp; omega) ?_)
                              intro v4 w4 ho4 hg4
                              have hb4 := Lib.hid ((hb2.out.alloc hb2.out.size _).grown hg4 (by simp; omega) (fun j hj => (hown2.out.lt j hj).1))
                              rw [← hfd2.out] at ho4
                              replace ho4 := Lib.hid ho4
                              clear hg4
                              go_wp2_with fail
                              go_roundw
                              case rel => exact ⟨i + 1, _, by go_num, rfl, by omega, ho4, hb4⟩
                              case measure => simp [intOf] <;> omega

                            · have hv1 : 0 < v.size := by omega
                              have hll := last_list v hv1
                              cases hB : isBl v[v.size - 1]
                              · have htv := htb.out.done (.inr ⟨_, _, hll, hB⟩)
                                clear hll
                                have hfd1 := Lib.hid htv
                                clear htv
                                go_wp2_with fail
                                refine (hbl.out _ wr).mono ?_
                                rintro e w' ⟨rfl, rfl⟩
                                rw [hB]
                                replace hB := Lib.hid hB
                                have htv := hfd1.out
                                have hfd2 : Hid ((out.take (i + 1)).filterMap fieldL = acc ++ [(X.data.toList.take j, v.data.toList)]) := Lib.hid (by rw [hnx.out, hfl.out, htv])
                                clear htv
                                go_wp2_with (at_builtin; refine wpList_append_named rfl (.tmp 143) (.tmp 152) rfl w2.heap.size _ acc wr.heap.size (X.extract 0 j) v rfl rfl (hown2.out.below ((Below.refl _ _).alloc (Nat.le_refl _) _)) (by simp) (by simp) (by simp) (by omega) (by simp; omega) ?_)
                                intro v4 w4 ho4 hg4
                                have hb4 := Lib.hid ((hb2.out.alloc hb2.out.size _).grown hg4 (by simp; omega) (fun j hj => (hown2.out.lt j hj).1))
                                rw [← hfd2.out] at ho4
                                replace ho4 := Lib.hid ho4
                                clear hg4
                                go_wp2_with fail
                                go_roundw
                                case rel => exact ⟨i + 1, _, by go_num, rfl, by omega, ho4, hb4⟩
                                case measure => simp [intOf] <;> omega

                              · have hnb := Lib.hid (TrimB.next (by rw [← hll]; exact htb.out) hB)
                                clear hll
                                go_wp2_with fail
                                refine (hbl.out _ wr).mono ?_
                                rintro e w' ⟨rfl, rfl⟩
                                rw [hB]
                                replace hB := Lib.hid hB
                                go_wp2_with fail
                                go_round
                                case rel => exact ⟨_, rfl, by rw [ByteArray.size_extract]; omega, hnb⟩
                                case measure => simp [strLen] <;> omega

                        · have hna := Lib.hid (TrimA.next (by rw [← hll]; exact hta.out) hB)
                          clear hll
                          go_wp2_with fail
                          refine (hbl.out _ wr).mono ?_
                          rintro e w' ⟨rfl, rfl⟩
                          rw [hB]
                          replace hB := Lib.hid hB
                          go_wp2_with fail
                          go_round
                          case rel => exact ⟨_, rfl, by rw [ByteArray.size_extract]; omega, hna⟩
                          case measure => simp [strLen] <;> omega

                · have hc1 : ((X[j].toNat : Int) == 58) = false := beq_eq_false_iff_ne.2 fun e => hc (byte_ext e)
                  have hn : Hid (∀ q, q < j + 1 → X.data.toList[q]? ≠ some 58) := Lib.hid (fun q hq => by
                    rcases Nat.lt_or_ge q j with h | h
                    · exact hno.out q h
                    · obtain rfl : q = j := by omega
                      rw [List.getElem?_eq_getElem (show q < X.data.toList.length from hjl)]
                      exact fun e => hc (Option.some.inj e))
                  replace hc := Lib.hid hc
                  go_wp2_with fail
                  go_round
                  case rel => exact ⟨j + 1, by go_num, by omega, hn⟩
                  case measure => simp [intOf] <;> omega
              · obtain rfl : j = X.size := by omega
                have hfl := Lib.hid (field_no (l := X.data.toList) hno.out)
                clear hno
                by_cases hj0 : X.size = 0
                · have hj1 : ((X.size : Int) == 0) = true := beq_iff_eq.2 (by omega)
                  replace hj0 := Lib.hid hj0
                  go_wp2_with fail
                  go_roundw
                  case rel => exact ⟨i + 1, _, by go_num, rfl, by omega, by rw [hnx.out, hfl.out, List.append_nil]; exact hown2, hb2⟩
                  case measure => simp [intOf] <;> omega

                · have hj1 : ((X.size : Int) == 0) = false := beq_eq_false_iff_ne.2 (by omega)
                  replace hj0 := Lib.hid hj0
                  go_wp2_with fail
                  go_roundw
                  case rel => exact ⟨i + 1, _, by go_num, rfl, by omega, by rw [hnx.out, hfl.out, List.append_nil]; exact hown2, hb2⟩
                  case measure => simp [intOf] <;> omega

          · obtain rfl : i = out.length := by omega
            rw [List.take_length] at hown2
            go_wp2_with fail
            go_ret
            exact ⟨_, rfl, Lib.hid (by rw [hfd.out]; exact hown2.out.mono (Nat.le_trans hb1.out.size hb.out.size)), Lib.hid ((hb1.out.trans (hb.out.mono hb1.out.size)).trans (hb2.out.mono (Nat.le_trans hb1.out.size hb.out.size)))⟩

end Go.Proofs.YtgijkpbeokclkaaDoor
