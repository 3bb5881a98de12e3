/- No text that is heard, and nothing that is kept, has more bytes than the limit: the walk of LinesBound. -/
import Derived.Test.YtkocnldkimjonaaDoorLinM
namespace Go.Proofs.YtkocnldkimjonaaDoor
open Go.RowKit

/-- a thing heard as it may be -/
def OkX (x : Nat × List UInt8) : Prop := x.2.length ≤ 8192 ∧ (x.1 ≠ 1 → x.1 ≠ 3 → x.2 = [])
def lastIs4 (hs : List (Nat × List UInt8)) : Bool := match hs.getLast? with | some x => x.1 == 4 | none => false
theorem heardL_out (st : FS) (hl : st.text.length ≤ 8193) : OkX (heardL st).2 ∧ (heardL st).2.1 ≠ 4 ∧ (heardL st).1.deaf = st.deaf := by
  unfold heardL
  simp only
  split
  · split
    · exact ⟨⟨by show (List.take _ _).length ≤ _; rw [List.length_take]; omega, fun _ h => absurd rfl h⟩, (by simp), rfl⟩
    · exact ⟨⟨by simp, fun _ _ => rfl⟩, by simp, rfl⟩
  · exact ⟨⟨by show (List.take _ _).length ≤ _; rw [List.length_take]; omega, fun h => absurd rfl h⟩, (by simp), rfl⟩
theorem feed1_out (st : FS) (hg : Good st) (hd : st.deaf = false) (c : UInt8) :
    ((feed1 st c).2 = [] ∧ (feed1 st c).1.deaf = false) ∨ (∃ x, (feed1 st c).2 = [x] ∧ x.1 ≠ 4 ∧ OkX x ∧ (feed1 st c).1.deaf = false) ∨ ((feed1 st c).2 = [(4, [])] ∧ (feed1 st c).1.deaf = true) := by
  have hs := hg.sum hd
  rw [feed1]
  split
  · left
    split <;> exact ⟨rfl, hd⟩
  · split
    · right; left
      obtain ⟨h1, h2, h3⟩ := heardL_out { st with text := st.text ++ [c] } (by simp; omega)
      exact ⟨_, rfl, h2, h1, h3.trans hd⟩
    · split
      · exact .inr (.inr ⟨rfl, rfl⟩)
      · exact .inl ⟨rfl, hd⟩
theorem lastIs4_cons (x : Nat × List UInt8) (l : List (Nat × List UInt8)) (h : x.1 ≠ 4) : lastIs4 (x :: l) = lastIs4 l := by
  unfold lastIs4
  cases l with
  | nil => simp [h]
  | cons y r => rw [List.getLast?_cons_cons]
theorem feedGo_out : ∀ (l : List UInt8) (st : FS), Good st → (∀ i x, (feedGo st l).2[i]? = some x → OkX x ∧ (x.1 = 4 → i + 1 = (feedGo st l).2.length)) ∧ (st.deaf = true → (feedGo st l).2 = []) ∧ (feedGo st l).1.deaf = (st.deaf || lastIs4 (feedGo st l).2)
  | [], st, _ => ⟨by simp [feedGo], fun _ => rfl, by simp [feedGo, lastIs4]⟩
  | c :: r, st, hg => by
    cases hd : st.deaf
    · have ih := feedGo_out r _ (hg.step c hd)
      have e : feedGo st (c :: r) = ((feedGo (feed1 st c).1 r).1, (feed1 st c).2 ++ (feedGo (feed1 st c).1 r).2) := by
        rw [feedGo, hd]; rfl
      rw [e]
      rcases feed1_out st hg hd c with ⟨h1, h2⟩ | ⟨x, h1, h4, hx, h2⟩ | ⟨h1, h2⟩
      · rw [h1, List.nil_append]
        refine ⟨ih.1, (fun h => by cases h), ?_⟩
        rw [ih.2.2, h2]
      · rw [h1]
        refine ⟨fun i y hy => ?_, (fun h => by cases h), ?_⟩
        · match i, hy with
          | 0, hy =>
            simp at hy; subst hy
            exact ⟨hx, fun h => absurd h h4⟩
          | i + 1, hy =>
            have := ih.1 i y (by simpa using hy)
            exact ⟨this.1, fun h => by have := this.2 h; simp; omega⟩
        · show (feedGo (feed1 st c).1 r).1.deaf = _
          rw [ih.2.2, h2, List.singleton_append, lastIs4_cons _ _ h4]
      · rw [feedGo_deaf _ r h2, h1]
        refine ⟨fun i y hy => ?_, (fun h => by cases h), ?_⟩
        · match i, hy with
          | 0, hy =>
            simp at hy; subst hy
            exact ⟨⟨by simp, fun _ _ => rfl⟩, fun _ => rfl⟩
          | i + 1, hy => simp at hy
        · show (feed1 st c).1.deaf = _
          rw [h2]; rfl
    · rw [feedGo_deaf _ _ hd]
      exact ⟨by simp, fun _ => rfl, by simp [hd]⟩
theorem Good.size {st : FS} (h : Good st) : (Proofs.YtkocnldkimjonaaDoor.fin st).text.length ≤ 8192 := by
  rw [Proofs.YtkocnldkimjonaaDoor.fin]
  cases hd : st.deaf
  · have := h.sum hd
    simp; omega
  · simp
theorem fin_left (st : FS) : (fin st).left = st.left := by rw [fin]; split <;> rfl
set_option maxRecDepth 100000 in
set_option maxHeartbeats 4000000 in
theorem linesBound_any (v : Value) (ss : List ByteArray) (w : World) (hr : Rd w v ss.length (strCells ss)) (hb : (catB ss).length ≤ 1048576) (hn : ss.length ≤ 1048576) (ht : Tab w) (he : Errs w) :
    Calls Tryd.prog 6 #[v] w fun e w' => e = .returned (.bool true) ∧ Below w.heap.size w w' := by
  have hr0 := Lib.hid hr
  obtain ⟨ao, cap, rfl, -⟩ := hr
  replace hb := Lib.hid hb
  go_enter Tryd.func6, Tryd.ntmps6
  go_wp2_with fail
  refine (alive_any w ht he).mono ?_
  rintro e w1 ⟨rfl, b1⟩
  replace b1 := Lib.hid b1
  have z1 : Hid (ZooAt w.heap.size w1 [] []) := Lib.hid (ZooAt.nil _ _)
  go_wp2_with fail
  refine (zoo_new w w1 b1 z1).mono ?_
  rintro e w2 ⟨f, rfl, z2, b2⟩
  replace z2 : Hid (ZooAt w.heap.size w2 [(f, fs0)] []) := z2
  clear b1 z1
  go_wp2_with fail
  go_loopw [4] (fun vi wr => ∃ (k : Nat) (st : FS) (O : List (Value × List (Nat × List UInt8))), vi = .int .i64 k ∧ k ≤ ss.length ∧ Hid (Good st) ∧ Hid (fin st = st) ∧ Hid (ZooAt w.heap.size wr [(f, st)] O) ∧ Hid (Below w.heap.size w wr)) (fun vi _ => ss.length - (intOf vi).toNat)
  case atStart => exact ⟨0, fs0, [], rfl, Nat.zero_le _, Lib.hid Good.new, Lib.hid rfl, z2, b2⟩
  case round =>
    obtain ⟨k, st, O, rfl, hk, hgood, hfin, hz, hbel⟩ := hrel
    by_cases hlt : k < ss.length
    · obtain ⟨b, o, hao, hbl, hcell⟩ := hr0.out.at_pos (by omega)
      subst hao
      have hc : wr.cell? ⟨b, o + k, none⟩ = some (.string ss[k]) := (hbel.out.cell (p := ⟨b, o + k, none⟩) hbl).trans (hcell k _ (strCells_at ss k hlt))
      have hsk : ss[k].size ≤ 1048576 := by
        have h1 := catB_len ss (k + 1)
        rw [catB_snoc ss k hlt, List.length_append, ← size_len] at h1
        have := hb.out
        omega
      clear hcell
      go_wp2_with fail
      refine (zoo_deaf hz 0 f st rfl).mono ?_
      rintro e w' ⟨rfl, rfl⟩
      go_wp2_with fail
      refine (zoo_feed w wr ht he hbel hz 0 f st rfl hgood ss[k] hsk).mono ?_
      rintro e w3 ⟨v3, rfl, z3, b3⟩
      obtain ⟨S, hS⟩ : ∃ S, Hid (fin (feedGo st ss[k].data.toList).1 = S) := ⟨_, Lib.hid rfl⟩
      obtain ⟨hs, hhs⟩ : ∃ hs, Hid ((feedGo st ss[k].data.toList).2 = hs) := ⟨_, Lib.hid rfl⟩
      replace z3 : Hid (ZooAt w.heap.size w3 [(f, S)] ((v3, hs) :: O)) := Lib.hid (by rw [← hS.out, ← hhs.out]; exact z3.out)
      have hG : Hid (Good S) := Lib.hid (by rw [← hS.out]; exact (Good.go _ hgood.out).fin)
      have hF : Hid (fin S = S) := Lib.hid (by rw [← hS.out]; exact fin_fin _)
      have hout := feedGo_out ss[k].data.toList st hgood.out
      have hsz : S.text.length ≤ 8192 := by rw [← hS.out]; exact (Good.go _ hgood.out).size
      have hsl : S.left ≤ 4096 := hG.out.left
      have hlen : hs.length ≤ 1048576 := by
        have := feedGo_len ss[k].data.toList st
        rw [← size_len, hhs.out] at this; omega
      have hdf : S.deaf = (st.deaf || lastIs4 hs) := by rw [← hS.out, fin_deaf, hout.2.2, hhs.out]
      have hnone : st.deaf = true → hs = [] := fun h => by rw [← hhs.out]; exact hout.2.1 h
      have hall : Hid (∀ i x, hs[i]? = some x → OkX x ∧ (x.1 = 4 → i + 1 = hs.length)) := Lib.hid (by rw [← hhs.out]; exact hout.1)
      have o3 := z3.out.out v3 hs (.head _)
      have hform := o3.form
      clear hout hz
      replace o3 := Lib.hid o3
      cases hd : st.deaf
      · rw [hd, Bool.false_or] at hdf
        replace hdf := Lib.hid hdf
        clear hnone
        obtain ⟨a3, c3, rfl⟩ : ∃ a c, v3 = .slice a hs.length c := by
          rcases hform with ⟨rfl, rfl⟩ | ⟨g, c, rfl⟩
          · exact ⟨_, _, rfl⟩
          · exact ⟨_, _, rfl⟩
        replace hform := Lib.hid hform
        go_wp2_with fail
        refine (zoo_size z3 0 f S rfl).mono ?_
        rintro e w' ⟨rfl, rfl⟩
        go_wp2_with fail
        refine (zoo_waits z3 0 f S rfl).mono ?_
        rintro e w' ⟨rfl, rfl⟩
        go_wp2_with fail
        go_loopw [7] (fun vi wr2 => ∃ (j : Nat), vi = .int .i64 j ∧ j ≤ hs.length ∧ wr2 = w3) (fun vi _ => hs.length - (intOf vi).toNat)
        case atStart => exact ⟨0, rfl, Nat.zero_le _, rfl⟩
        case round =>
          obtain ⟨j, rfl, hj, rfl⟩ := hrel
          by_cases hjl : j < hs.length
          · obtain ⟨⟨n, t⟩, hx⟩ : ∃ x, hs[j]? = some x := ⟨_, List.getElem?_eq_getElem hjl⟩
            obtain ⟨g, hg⟩ : ∃ g, a3 = some ⟨g, 0, none⟩ := by
              rcases hform.out with ⟨h1, _⟩ | ⟨g, c, h1⟩
              · rw [h1] at hjl; simp at hjl
              · exact ⟨g, (Value.slice.inj h1).1⟩
            subst hg
            obtain ⟨x0, x1⟩ := o3.out.cell j (n, t) hx
            obtain ⟨⟨hx2, hx3⟩, hx4⟩ := hall.out j (n, t) hx
            have hx2 : t.length ≤ 8192 := hx2
            have hx3 : n ≠ 1 → n ≠ 3 → t = [] := hx3
            have hx4 : n = 4 → j + 1 = hs.length := hx4
            have x0 : wr.cell? ⟨g, j * 2, none⟩ = some (.int .i64 (n : Int)) := x0
            have x1 : wr.cell? ⟨g, j * 2 + 1, none⟩ = some (.string ⟨t.toArray⟩) := x1
            clear hx
            by_cases n1 : n = 1
            · subst n1
              clear hx3 hx4
              go_wp2_with fail
              go_roundw
              case rel => exact ⟨j + 1, by go_num, by omega, by trivial⟩
              case measure => simp [intOf]; omega
            · by_cases n3 : n = 3
              · subst n3
                clear hx3 hx4
                go_wp2_with fail
                go_roundw
                case rel => exact ⟨j + 1, by go_num, by omega, by trivial⟩
                case measure => simp [intOf]; omega
              · obtain rfl := hx3 n1 n3
                by_cases n4 : n = 4
                · have hj4 := hx4 n4
                  subst n4
                  clear hx3 hx4
                  go_wp2_with fail
                  go_roundw
                  case rel => exact ⟨j + 1, by go_num, by omega, by trivial⟩
                  case measure => simp [intOf]; omega
                · have t4 : ((n : Int) == 4) = false := by simpa using (by omega : ¬ (n : Int) = 4)
                  have t1 : ((n : Int) != 1) = true := by simpa using (by omega : ¬ (n : Int) = 1)
                  have t3 : ((n : Int) != 3) = true := by simpa using (by omega : ¬ (n : Int) = 3)
                  clear hx3 hx4
                  go_wp2_with fail
                  go_roundw
                  case rel => exact ⟨j + 1, by go_num, by omega, by trivial⟩
                  case measure => simp [intOf]; omega
          · rcases Nat.eq_zero_or_pos hs.length with h0 | h0
            · have hs0 := List.eq_nil_of_length_eq_zero h0
              have hdS : S.deaf = false := by rw [hdf.out, hs0]; rfl
              have hh0 : ¬ (0 : Int) < (hs.length : Int) := by omega
              go_wp2_with fail
              refine (zoo_deaf z3 0 f S rfl).mono ?_
              rintro e w' ⟨rfl, rfl⟩
              rw [hdS]
              go_wp2_with fail
              go_roundw
              case rel => exact ⟨k + 1, S, _, by go_num, by omega, hG, hF, z3, b3⟩
              case measure => simp [intOf]; omega
            · obtain ⟨⟨n, t⟩, hx⟩ : ∃ x, hs[hs.length - 1]? = some x := ⟨_, List.getElem?_eq_getElem (by omega)⟩
              obtain ⟨g, hg⟩ : ∃ g, a3 = some ⟨g, 0, none⟩ := by
                rcases hform.out with ⟨h1, _⟩ | ⟨g, c, h1⟩
                · rw [h1] at h0; simp at h0
                · exact ⟨g, (Value.slice.inj h1).1⟩
              subst hg
              obtain ⟨x0, _⟩ := o3.out.cell _ (n, t) hx
              have x0 : wr.cell? ⟨g, (hs.length - 1) * 2, none⟩ = some (.int .i64 (n : Int)) := x0
              have hdS : S.deaf = (n == 4) := by
                rw [hdf.out, lastIs4, List.getLast?_eq_getElem?, hx]
              have hh0 : (0 : Int) < (hs.length : Int) := by omega
              clear hx hh0
              by_cases n4 : n = 4
              · subst n4
                replace hdS : S.deaf = true := hdS
                go_wp2_with fail
                refine (zoo_deaf z3 0 f S rfl).mono ?_
                rintro e w' ⟨rfl, rfl⟩
                rw [hdS]
                go_wp2_with fail
                go_roundw
                case rel => exact ⟨k + 1, S, _, by go_num, by omega, hG, hF, z3, b3⟩
                case measure => simp [intOf]; omega
              · have t4 : ((n : Int) == 4) = false := by simpa using (by omega : ¬ (n : Int) = 4)
                replace hdS : S.deaf = false := by rw [hdS]; simpa using n4
                go_wp2_with fail
                refine (zoo_deaf z3 0 f S rfl).mono ?_
                rintro e w' ⟨rfl, rfl⟩
                rw [hdS]
                go_wp2_with fail
                go_roundw
                case rel => exact ⟨k + 1, S, _, by go_num, by omega, hG, hF, z3, b3⟩
                case measure => simp [intOf]; omega
      · obtain rfl := hnone hd
        have hdS : S.deaf = true := by rw [hdf, hd]; rfl
        obtain ⟨a3, c3, rfl⟩ : ∃ a c, v3 = .slice a 0 c := by
          rcases hform with ⟨_, rfl⟩ | ⟨g, c, rfl⟩
          · exact ⟨_, _, rfl⟩
          · exact ⟨_, _, rfl⟩
        clear hform hnone hdf
        go_wp2_with fail
        refine (zoo_size z3 0 f S rfl).mono ?_
        rintro e w' ⟨rfl, rfl⟩
        go_wp2_with fail
        refine (zoo_waits z3 0 f S rfl).mono ?_
        rintro e w' ⟨rfl, rfl⟩
        go_wp2_with fail
        go_loopw [7] (fun vi wr2 => vi = .int .i64 0 ∧ wr2 = w3) (fun vi _ => 0)
        case atStart => exact ⟨rfl, rfl⟩
        case round =>
          obtain ⟨rfl, rfl⟩ := hrel
          go_wp2_with fail
          refine (zoo_deaf z3 0 f S rfl).mono ?_
          rintro e w' ⟨rfl, rfl⟩
          rw [hdS]
          go_wp2_with fail
          go_roundw
          case rel => exact ⟨k + 1, S, _, by go_num, by omega, hG, hF, z3, b3⟩
          case measure => simp [intOf]; omega
    · go_wp2_with fail
      go_ret
      exact ⟨rfl, hbel.out⟩
end Go.Proofs.YtkocnldkimjonaaDoor
