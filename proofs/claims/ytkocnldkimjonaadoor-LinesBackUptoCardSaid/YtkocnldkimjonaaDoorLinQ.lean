/- Requests, sent one behind the other, are heard as their texts: the walk of LinesBack. -/
import Derived.Test.YtkocnldkimjonaaDoorLinR
import Derived.Test.YtkocnldkimjonaaDoorOpenR
namespace Go.Proofs.YtkocnldkimjonaaDoor
open Go.RowKit

def rl (r : List (ByteArray × ByteArray)) : List (List UInt8 × List UInt8) := r.map fun x => (x.1.data.toList, x.2.data.toList)
theorem rl_len (r : List (ByteArray × ByteArray)) : (rl r).length = r.length := by simp [rl]
theorem rl_at (r : List (ByteArray × ByteArray)) (j : Nat) (t l : ByteArray) (h : r[j]? = some (t, l)) : (rl r).getD j ([], []) = (t.data.toList, l.data.toList) := by
  simp [rl, List.getD, h]
theorem rd_row {w wr : World} {b o k : Nat} {cs : List Value} {u : Value} (hb : Below w.heap.size w wr) (hbl : b < w.heap.size) (hc : ∀ i u, cs[i]? = some u → w.cell? ⟨b, o + i, none⟩ = some u) (hk : cs[k]? = some u) : wr.cell? ⟨b, o + k, none⟩ = some u := (hb.cell (p := ⟨b, o + k, none⟩) hbl).trans (hc k u hk)
theorem zoo_size0 {B : Nat} {w : World} {L : List (Nat × FS)} {O : List (Value × List (Nat × List UInt8))} (h : Hid (ZooAt B w L O)) (i b : Nat) (hi : L[i]? = some (b, fs0)) :
    Calls Tryd.prog 15 #[.pointer (some ⟨b, 0, none⟩)] w fun e w' => e = .returned (.int .i64 0) ∧ w = w' := zoo_size h i b fs0 hi
theorem zoo_deaf0 {B : Nat} {w : World} {L : List (Nat × FS)} {O : List (Value × List (Nat × List UInt8))} (h : Hid (ZooAt B w L O)) (i b : Nat) (hi : L[i]? = some (b, fs0)) :
    Calls Tryd.prog 16 #[.pointer (some ⟨b, 0, none⟩)] w fun e w' => e = .returned (.bool false) ∧ w = w' := zoo_deaf h i b fs0 hi
set_option maxRecDepth 100000 in
set_option maxHeartbeats 4000000 in
theorem linesBack_any (v : Value) (rs : List (List (ByteArray × ByteArray))) (w : World) (hr : RdReqs w v rs) (hb : ReqsLe 1048576 rs) (ht : Tab w) (he : Errs w) :
    Calls Tryd.prog 5 #[v] w fun e w' => e = .returned (.bool true) ∧ Below w.heap.size w w' := by
  obtain ⟨vs, hvl, hrd, hin⟩ := hr
  replace hin := Lib.hid hin
  have hr0 := Lib.hid hrd
  obtain ⟨ao, cap, rfl, -⟩ := hrd
  have hn := hb.1
  replace hb := Lib.hid hb
  replace hvl := Lib.hid hvl
  have g0 : Hid (Good fs0) := Lib.hid Good.new
  go_enter Tryd.func5, Tryd.ntmps5
  go_wp2_with fail
  refine (alive_any w ht he).mono ?_
  rintro e w1 ⟨rfl, b1⟩
  replace b1 := Lib.hid b1
  have z1 : Hid (ZooAt w.heap.size w1 [] []) := Lib.hid (ZooAt.nil _ _)
  go_wp2_with fail
  refine (zoo_new w w1 b1 z1).mono ?_
  rintro e w2 ⟨f, rfl, z2, b2⟩
  replace z2 : Hid (ZooAt w.heap.size w2 [(f, fs0)] []) := z2
  clear b1 z1
  go_wp2_with fail
  go_loopw [4] (fun vi wr => ∃ (k : Nat) (O : List (Value × List (Nat × List UInt8))), vi = .int .i64 k ∧ k ≤ rs.length ∧ Hid (ZooAt w.heap.size wr [(f, fs0)] O) ∧ Hid (Below w.heap.size w wr)) (fun vi _ => rs.length - (intOf vi).toNat)
  case atStart => exact ⟨0, [], rfl, Nat.zero_le _, z2, b2⟩
  case round =>
    obtain ⟨k, O, rfl, hk, hz, hbel⟩ := hrel
    by_cases hlt : k < rs.length
    · obtain ⟨b, o, hao, hbl, hcell⟩ := hr0.out.at_pos (by omega)
      subst hao
      obtain ⟨r, hrk⟩ : ∃ r, rs[k]? = some r := ⟨_, List.getElem?_eq_getElem hlt⟩
      obtain ⟨u, huk⟩ : ∃ u, vs[k]? = some u := ⟨_, List.getElem?_eq_getElem (by rw [hvl.out]; exact hlt)⟩
      have hin1 := hin.out k u r huk hrk
      have hrB := hb.out.2 r (List.mem_of_getElem? hrk)
      have hrl := hrB.1
      have hrx := Lib.hid hrB.2
      have hc : ∀ wr, Below w.heap.size w wr → wr.cell? ⟨b, o + k, none⟩ = some u := fun wr h => rd_row h hbl hcell huk
      clear hrB hcell hrk huk
      have hin2 := Lib.hid hin1
      obtain ⟨ai, ci, rfl, -⟩ := hin1
      have hcr := hc wr hbel.out
      replace hc := Lib.hid hc
      go_wp2_with fail
      go_loopw [5, 6] (fun vt vj wr2 => ∃ (j : Nat) (T : ByteArray), vj = .int .i64 j ∧ vt = .string T ∧ j ≤ r.length ∧ T.size ≤ j * 8000 ∧ Hid (T.data.toList = reqTo (rl r) j) ∧ Hid (∀ i, i < j → (plainL ((rl r).getD i ([], [])).1).length ≤ 900 ∧ ((rl r).getD i ([], [])).2.length ≤ 4096) ∧ Hid (ZooAt w.heap.size wr2 [(f, fs0)] O) ∧ Hid (Below w.heap.size w wr2)) (fun _ vj _ => r.length - (intOf vj).toNat)
      case atStart => exact ⟨0, ⟨#[]⟩, rfl, rfl, Nat.zero_le _, Nat.zero_le _, Lib.hid rfl, Lib.hid (fun i h => absurd h (Nat.not_lt_zero _)), hz, hbel⟩
      case round =>
        obtain ⟨j, T, rfl, rfl, hj, hT, hTl, hsh, hz2, hb2⟩ := hrel
        have hcr2 := hc.out _ hb2.out
        clear hcr
        by_cases hjl : j < r.length
        · obtain ⟨bi, oi, hai, hbil, hcelli⟩ := hin2.out.at_pos (by omega)
          subst hai
          obtain ⟨⟨t, l⟩, hx⟩ : ∃ x, r[j]? = some x := ⟨_, List.getElem?_eq_getElem hjl⟩
          obtain ⟨p0, p1⟩ := partCells_at r j (t, l) hx
          obtain ⟨hts, hls⟩ := hrx.out (t, l) (List.mem_of_getElem? hx)
          have hts : t.size ≤ 1048576 := hts
          have hls : l.size ≤ 1048576 := hls
          have hrlj := Lib.hid (rl_at r j t l hx)
          have hc0 : ∀ wr, Below w.heap.size w wr → wr.cell? ⟨bi, oi + j * 2, none⟩ = some (.string t) ∧ wr.cell? ⟨bi, oi + j * 2 + 1, none⟩ = some (.string l) := fun wr h => ⟨rd_row h hbil hcelli p0, by have := rd_row h hbil hcelli p1; rwa [← Nat.add_assoc] at this⟩
          obtain ⟨q0, q1⟩ := hc0 _ hb2.out
          replace hc0 := Lib.hid hc0
          clear p0 p1 hcelli hx
          go_wp2_with fail
          refine (plain_any t hts _).mono ?_
          rintro e w3 ⟨P, rfl, hP, hb3⟩
          have hPs : P.size ≤ 1048576 := by
            have := plainL_len t.data.toList
            rw [← hP.out, ← size_len, ← size_len] at this; omega
          have hz3 := Lib.hid (hz2.out.below hb3)
          have hb3' := Lib.hid (hb2.out.trans (hb3.mono hb2.out.size))
          obtain ⟨q30, q31⟩ := hc0.out _ hb3'.out
          have hcr3 := hc.out _ hb3'.out
          clear hb3 q0 q1 hcr2
          by_cases hP9 : P.size ≤ 900
          · by_cases hL4 : l.size ≤ 4096
            · have hpl : (plainL ((rl r).getD j ([], [])).1).length ≤ 900 ∧ ((rl r).getD j ([], [])).2.length ≤ 4096 := by
                rw [hrlj.out]
                exact ⟨by rw [← hP.out, ← size_len]; exact hP9, by rw [← size_len]; exact hL4⟩
              have hsh' : Hid (∀ i, i < j + 1 → (plainL ((rl r).getD i ([], [])).1).length ≤ 900 ∧ ((rl r).getD i ([], [])).2.length ≤ 4096) := Lib.hid (fun i hi => by
                rcases Nat.lt_or_ge i j with h | h
                · exact hsh.out i h
                · obtain rfl : i = j := by omega
                  exact hpl)
              replace hpl := Lib.hid hpl
              have hjm : j ≤ 1048576 := by omega
              by_cases hlast : j + 1 < r.length
              · have hl2 : (j : Int) < (r.length : Int) - 1 := by omega
                go_wp2_with fail
                refine (digitsN_any l.size (by omega) _).mono ?_
                rintro e w4 ⟨D, rfl, hD, hb4⟩
                have hDs : D.size ≤ 4 := by
                  rw [size_len, hD.out, Lib.decDigits_length]
                  exact nDigits_pow _ 4 (by decide) (by omega)
                have hz4 := Lib.hid (hz3.out.below hb4)
                have hb4' := Lib.hid (hb3'.out.trans (hb4.mono hb3'.out.size))
                clear hb4
                go_wp2_with fail
                go_roundw
                case rel =>
                  refine ⟨j + 1, _, by go_num, rfl, by omega, ?_, Lib.hid ?_, hsh', hz4, hb4'⟩
                  · have e1 : (ByteArray.mk #[123]).size = 1 := rfl
                    have e3 : (ByteArray.mk #[125, 13, 10]).size = 3 := rfl
                    simp only [ByteArray.size_append, e1, e3]
                    omega
                  · simp only [toList_app]
                    rw [hTl.out, hP.out, hD.out, reqTo_succ, rl_len, if_pos hlast, hrlj.out]
                    simp [partL]
                case measure => simp [intOf]; omega
              · have hl2 : ¬ (j : Int) < (r.length : Int) - 1 := by omega
                go_wp2_with fail
                go_roundw
                case rel =>
                  refine ⟨j + 1, _, by go_num, rfl, by omega, ?_, Lib.hid ?_, hsh', hz3, hb3'⟩
                  · simp only [ByteArray.size_append]
                    omega
                  · rw [toList_app, hTl.out, hP.out, reqTo_succ, rl_len, if_neg hlast, hrlj.out]
                case measure => simp [intOf]; omega
            · go_wp2_with fail
              go_ret
              exact ⟨rfl, hb3'.out⟩
          · go_wp2_with fail
            go_ret
            exact ⟨rfl, hb3'.out⟩
        · obtain rfl : j = r.length := by omega
          by_cases h8 : T.size ≤ 8000
          · have hshort : Short (rl r) := by
              intro x hx
              obtain ⟨i, hi⟩ := List.getElem?_of_mem hx
              have hil : i < r.length := by
                have := (List.getElem?_eq_some_iff.1 hi).1
                rwa [rl_len] at this
              have := hsh.out i hil
              rwa [List.getD, hi] at this
            have hTr : T.data.toList = reqL (rl r) := by
              have := reqTo_all (rl r)
              rw [rl_len] at this
              rw [hTl.out, this]
            have hfeed := feed_req (rl r) [] hshort (by rw [← hTr, ← size_len]; simpa using h8)
            rw [rl_len, ← hTr, List.nil_append] at hfeed
            obtain ⟨hs, hhs⟩ : ∃ hs, hs = List.replicate (r.length - 1) ((2 : Nat), ([] : List UInt8)) ++ [(1, T.data.toList)] := ⟨_, rfl⟩
            rw [← hhs] at hfeed
            obtain ⟨m, hm⟩ : ∃ m, m = r.length - 1 := ⟨_, rfl⟩
            rw [← hm] at hhs
            have hsl : hs.length = m + 1 := by rw [hhs]; simp
            have hlast : hs[m]? = some (1, T.data.toList) := by rw [hhs, List.getElem?_append_right (by simp)]; simp
            have hrest : ∀ i, i < m → hs[i]? = some (2, []) := fun i hi => by rw [hhs, List.getElem?_append_left (by simpa using hi)]; simp [hi]
            have hTA : Hid ((T ++ ⟨#[13, 10]⟩).data.toList = T.data.toList ++ [13, 10]) := Lib.hid (toList_app _ _)
            replace hfeed := Lib.hid hfeed
            replace hrest := Lib.hid hrest
            have hsz : (T ++ ⟨#[13, 10]⟩).size ≤ 1048576 := by
              have e2 : (ByteArray.mk #[13, 10]).size = 2 := rfl
              rw [ByteArray.size_append, e2]; omega
            clear hhs hTr hshort hTl hsh
            go_wp2_with fail
            refine (zoo_feed w wr ht he hb2 hz2 0 f fs0 rfl g0 _ hsz).mono ?_
            rintro e w5 ⟨v5, rfl, z5, b5⟩
            replace z5 : Hid (ZooAt w.heap.size w5 [(f, fs0)] ((v5, hs) :: O)) := Lib.hid (by
              have h := z5.out
              rw [hTA.out, show (fs0 : FS) = ⟨[], ([] : List UInt8).length, 0, false⟩ from rfl, hfeed.out] at h
              exact h)
            have o5 := z5.out.out v5 hs (.head _)
            obtain ⟨g, c5, rfl⟩ : ∃ g c, v5 = .slice (some ⟨g, 0, none⟩) (m + 1) c := by
              rcases o5.form with ⟨h1, _⟩ | ⟨g, c, h1⟩
              · rw [h1] at hsl; simp at hsl
              · exact ⟨g, c, by rw [h1, hsl]⟩
            have o5' : OwnHeards w5 w.heap.size (.slice (some ⟨g, 0, none⟩) hs.length c5) hs := by rw [hsl]; exact o5
            obtain ⟨y0, y1⟩ := o5'.cell m _ hlast
            have y0 : w5.cell? ⟨g, m * 2, none⟩ = some (.int .i64 1) := y0
            have y1 : w5.cell? ⟨g, m * 2 + 1, none⟩ = some (.string T) := y1
            replace o5 := Lib.hid o5'
            clear o5' hlast
            have hcr5 := hc.out _ b5.out
            clear hcr2
            have hmr : m ≤ 1048576 := by omega
            rcases Nat.eq_zero_or_pos r.length with hr0' | hr0'
            case' inl =>
              have hm0 : m = 0 := by omega
              have hmax : max (r.length : Int) 1 = (m : Int) + 1 := by omega
              clear hm0
            case' inr =>
              have hmax : max (r.length : Int) 1 = (m : Int) + 1 := by omega
            all_goals
              clear hm hr0'
              go_wp2_with fail
              go_loopw [10] (fun vj wr2 => ∃ j : Nat, vj = .int .i64 j ∧ j ≤ m ∧ wr2 = w5) (fun vj _ => m - (intOf vj).toNat)
              case atStart => exact ⟨0, rfl, Nat.zero_le _, rfl⟩
              case round =>
                obtain ⟨j, rfl, hj2, rfl⟩ := hrel
                by_cases hjm : j < m
                · obtain ⟨x0, x1⟩ := o5.out.cell j _ (hrest.out j hjm)
                  have x0 : wr.cell? ⟨g, j * 2, none⟩ = some (.int .i64 2) := x0
                  have x1 : wr.cell? ⟨g, j * 2 + 1, none⟩ = some (.string ⟨#[]⟩) := x1
                  go_wp2_with fail
                  go_roundw
                  case rel => exact ⟨j + 1, by go_num, by omega, by trivial⟩
                  case measure => simp [intOf]; omega
                · go_wp2_with fail
                  go_roundw
                  case rel => exact ⟨k + 1, _, by go_num, by omega, z5, b5⟩
                  case measure => simp [intOf]; omega
          · go_wp2_with fail
            go_ret
            exact ⟨rfl, hb2.out⟩
    · go_wp2_with fail
      refine (zoo_size0 hz 0 f rfl).mono ?_
      rintro e w' ⟨rfl, rfl⟩
      go_wp2_with fail
      refine (zoo_deaf0 hz 0 f rfl).mono ?_
      rintro e w' ⟨rfl, rfl⟩
      go_wp2_with fail
      go_ret
      exact ⟨rfl, hbel.out⟩
end Go.Proofs.YtkocnldkimjonaaDoor
