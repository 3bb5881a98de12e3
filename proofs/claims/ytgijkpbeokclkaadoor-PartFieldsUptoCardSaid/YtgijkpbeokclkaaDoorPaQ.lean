/- The document's Field: walked. -/
import Derived.Test.YtgijkpbeokclkaaDoorPaP
namespace Go.Proofs.YtgijkpbeokclkaaDoor
open Go.RowKit

theorem OwnN.form {w : World} {B : Nat} {v : Value} {l : List (List UInt8 × List UInt8)} (h : OwnN w B v l) : ∃ ao cap, v = .slice ao l.length cap := by
  rcases h.2 with ⟨rfl, hn⟩ | ⟨g, cap, cur, rfl, _⟩
  · exact ⟨none, 0, by rw [hn]⟩
  · exact ⟨_, _, rfl⟩
theorem OwnN.pos {w : World} {B : Nat} {ao : Option Addr} {cap : Nat} {l : List (List UInt8 × List UInt8)} (h : OwnN w B (.slice ao l.length cap) l) (hl : 0 < l.length) : ∃ g, ao = some ⟨g, 0, none⟩ ∧ B ≤ g ∧ g < w.heap.size ∧ l.length ≤ cap := by
  rcases h.2 with ⟨_, hn⟩ | ⟨g, cap', cur, hv, hB, hg, hle, _⟩
  · omega
  · cases hv
    exact ⟨g, rfl, hB, (Array.getElem?_eq_some_iff.1 hg).1, hle⟩
theorem flat_at (l : List (List UInt8 × List UInt8)) : ∀ (i : Nat) (h : i < l.length), (l.flatMap encN)[i * 2]? = some (encStr l[i].1) ∧ (l.flatMap encN)[i * 2 + 1]? = some (encStr l[i].2) := by
  induction l with
  | nil => intro i h; simp at h
  | cons x r ih =>
    intro i h
    cases i with
    | zero => exact ⟨rfl, rfl⟩
    | succ i =>
      have := ih i (by simpa using h)
      have e : (x :: r).flatMap encN = [encStr x.1, encStr x.2] ++ r.flatMap encN := rfl
      rw [e]
      rw [List.getElem?_append_right (by simp; omega), List.getElem?_append_right (by simp; omega)]
      simp only [List.length_cons, List.length_nil]
      rw [show (i + 1) * 2 - (0 + 1 + 1) = i * 2 by omega, show (i + 1) * 2 + 1 - (0 + 1 + 1) = i * 2 + 1 by omega]
      exact this
theorem OwnN.cells {w : World} {B g cap : Nat} {l : List (List UInt8 × List UInt8)} (h : OwnN w B (.slice (some ⟨g, 0, none⟩) l.length cap) l) (i : Nat) (hi : i < l.length) : w.cell? ⟨g, i * 2, none⟩ = some (.string (mkB l[i].1)) ∧ w.cell? ⟨g, i * 2 + 1, none⟩ = some (.string (mkB l[i].2)) := by
  have h1 := flat_at l i hi
  exact ⟨by rw [World.ownsRow.cellAt h (i * 2) (by omega), h1.1]; rfl, by rw [World.ownsRow.cellAt h (i * 2 + 1) (by omega), h1.2]; rfl⟩
theorem fields_len (m : List UInt8) : (fieldsL m).length ≤ m.length + 1 := Nat.le_trans (fm_len _) (fieldLines_len m).1
theorem field_short (m : List UInt8) : ∀ p ∈ fieldsL m, p.1.length ≤ m.length ∧ p.2.length ≤ m.length := by
  intro p hp
  rw [fieldsL, List.mem_filterMap] at hp
  obtain ⟨l, hl, hf⟩ := hp
  have h1 := mem_flat_len hl
  have h2 := (fieldLines_len m).2
  have h3 := cut_len l
  rw [fieldL] at hf
  split at hf
  · injection hf with hf
    rw [← hf]
    have h4 := trim_len (Lib.cut l [58]).2.1 [32, 9]
    exact ⟨by show (Lib.cut l [58]).1.length ≤ _; omega, by show (Lib.trimS _ _).length ≤ _; omega⟩
  · cases hf
set_option maxRecDepth 100000 in
set_option maxHeartbeats 2000000 in
theorem refField_any (s N : ByteArray) (hs : s.size ≤ 4194304) (hN : N.size ≤ 4194304) (w : World) :
    Calls Tryd.prog 12 #[.string s, .string N] w (FieldRet s.data.toList N.data.toList w) := by
  have hfs := Lib.hid (refFields_any s hs w)
  have hup := Lib.hid (fun (Z : ByteArray) (hZ : Z.size ≤ 4194304) w' => refUpper_any Z (by unfold maxLen; omega) w')
  have hfl := fields_len s.data.toList
  have hsh := Lib.hid (field_short s.data.toList)
  have hv1 := Lib.hid (fun (ini : List (List UInt8 × List UInt8)) x (hp : ini ++ [x] <+: fieldsL s.data.toList) h hx => fieldVal_some (M := s.data.toList) (N := N.data.toList) (x := x) hp h hx)
  have hv2 := Lib.hid (fieldVal_none (M := s.data.toList) (N := N.data.toList))
  have hsl : s.data.toList.length = s.size := rfl
  rw [hsl] at hfl hsh
  clear hsl
  unfold FieldsRet at hfs
  generalize fieldsL s.data.toList = L at hfs hfl hsh hv1 hv2
  go_enter Tryd.func12, Tryd.ntmps12
  go_wp2_with fail
  refine hfs.out.mono ?_
  rintro e w1 ⟨v, rfl, hown, hb1⟩
  clear hfs
  obtain ⟨ao, cap, rfl⟩ := hown.out.form
  go_wp2_with fail
  go_loopw [7] (fun vk wr => ∃ k : Nat, vk = .int .i64 k ∧ k ≤ L.length ∧ Hid (∀ p ∈ L.take k, upL p.1 ≠ upL N.data.toList) ∧ Hid (Below w1.heap.size w1 wr)) (fun vk _ => L.length - (intOf vk).toNat)
  case atStart => exact ⟨0, rfl, Nat.zero_le _, Lib.hid (fun p hp => by cases hp), Lib.hid (Below.refl _ _)⟩
  case round =>
    obtain ⟨k, rfl, hk, hno, hb⟩ := hrel
    by_cases hlt : k < L.length
    · obtain ⟨g, rfl, hgB, hgl, hcap⟩ := hown.out.pos (by omega)
      have hcs := hown.out.cells k hlt
      have hcell := Lib.hid (fun W (h : Below w1.heap.size w1 W) => (⟨(h.cell (p := ⟨g, k * 2, none⟩) hgl).trans hcs.1, (h.cell (p := ⟨g, k * 2 + 1, none⟩) hgl).trans hcs.2⟩ : W.cell? ⟨g, k * 2, none⟩ = some (.string (mkB L[k].1)) ∧ W.cell? ⟨g, k * 2 + 1, none⟩ = some (.string (mkB L[k].2))))
      have hsz := hsh.out L[k] (List.getElem_mem hlt)
      have hX : (mkB L[k].1).size ≤ 4194304 := by show L[k].1.length ≤ _; omega
      have hc1 := (hcell.out wr hb.out).1
      have hq : ((mkB (upL L[k].1)).toList == (mkB (upL N.data.toList)).toList) = decide (upL L[k].1 = upL N.data.toList) := by
        by_cases h : upL L[k].1 = upL N.data.toList
        · rw [h, decide_eq_true rfl, beq_iff_eq]
        · rw [decide_eq_false h]; exact ne_up h
      have hu1 := hup.out (mkB L[k].1) hX wr
      have hu2 := Lib.hid (fun w' => hup.out N hN w')
      replace hu1 : Calls Tryd.prog 29 #[.string (mkB L[k].1)] wr fun e w' => e = .returned (.string (mkB (upL L[k].1))) ∧ Below wr.heap.size wr w' := hu1
      replace hu2 : Hid (∀ w', Calls Tryd.prog 29 #[.string N] w' fun e w'' => e = .returned (.string (mkB (upL N.data.toList))) ∧ Below w'.heap.size w' w'') := hu2
      replace hu1 := Lib.hid hu1
      have hins := Lib.hid (show L.take k ++ [L[k]] <+: L from by rw [← List.take_succ_eq_append_getElem hlt]; exact List.take_prefix _ _)
      have hv2' : Hid (upL L[k].1 ≠ upL N.data.toList → ∀ p ∈ L.take (k + 1), upL p.1 ≠ upL N.data.toList) := Lib.hid (fun hne p hp => by
        rw [List.take_succ_eq_append_getElem hlt] at hp
        rcases List.mem_append.1 hp with h | h
        · exact hno.out p h
        · obtain rfl : p = L[k] := by simpa using h
          exact hne)
      have hyl : Hid ((mkB L[k].2).data.toList = L[k].2) := Lib.hid rfl
      have hv3 := Lib.hid (hv1.out (L.take k) L[k] hins.out hno.out)
      clear hins hcs hX
      obtain ⟨D, hD⟩ : ∃ D, decide (upL L[k].1 = upL N.data.toList) = D := ⟨_, rfl⟩
      rw [hD] at hq
      replace hD := Lib.hid hD
      generalize mkB (upL L[k].1) = U1 at hu1 hq
      generalize mkB (upL N.data.toList) = U2 at hu2 hq
      generalize mkB L[k].1 = Y1 at hu1 hc1 hcell
      generalize mkB L[k].2 = Y2 at hcell hyl
      go_wp2_with fail
      refine hu1.out.mono ?_
      rintro e w2 ⟨rfl, hb2⟩
      have hb3 := Lib.hid (hb.out.trans (hb2.mono hb.out.size))
      clear hb2 hu1
      go_wp2_with fail
      refine (hu2.out w2).mono ?_
      rintro e w3 ⟨rfl, hb4⟩
      have hb5 := Lib.hid (hb3.out.trans (hb4.mono hb3.out.size))
      have hc3 := (hcell.out w3 hb5.out).2
      clear hb4 hu2
      cases D
      · have hnn := Lib.hid (hv2'.out (of_decide_eq_false hD.out))
        clear hv2' hv3
        go_wp2_with fail
        go_roundw
        case rel => exact ⟨k + 1, by go_num, by omega, hnn, hb5⟩
        case measure => simp [intOf] <;> omega
      · have hvv := Lib.hid (hv3.out (of_decide_eq_true hD.out))
        clear hv2' hv3
        go_wp2_with fail
        go_ret2
        exact ⟨Y2, by rw [hvv.out]; rfl, Lib.hid (by rw [hvv.out, hyl.out]; rfl), Lib.hid (hb1.out.trans (hb5.out.mono hb1.out.size))⟩
    · obtain rfl : k = L.length := by omega
      rw [List.take_length] at hno
      have hvv := Lib.hid (hv2.out hno.out)
      go_wp2_with fail
      go_ret2
      exact ⟨⟨#[]⟩, by rw [hvv.out]; rfl, Lib.hid (by rw [hvv.out]; rfl), Lib.hid (hb1.out.trans (hb.out.mono hb1.out.size))⟩
end Go.Proofs.YtgijkpbeokclkaaDoor
