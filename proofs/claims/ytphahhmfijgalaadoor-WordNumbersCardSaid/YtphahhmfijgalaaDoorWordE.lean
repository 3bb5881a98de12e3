/- 'Unquote' of the program: the quoted text with which a text begins; new memory alone is written. -/
import Derived.Test.YtphahhmfijgalaaDoorWordD
namespace Go.Proofs.YtphahhmfijgalaaDoor
open Go.RowKit

theorem empty_iff (s : ByteArray) : s.toList.isEmpty = decide (s.size = 0) := by
  rw [ByteArray.toList_eq, size_len]; cases s.data.toList <;> simp
theorem unqL_zero (s : ByteArray) (h : s.size = 0) : unqL s.data.toList = none := unqL_short s (by omega)
set_option maxHeartbeats 2000000 in
theorem unquote_any (s : ByteArray) (hs : s.size < 140737488355328) (w : World) :
    Calls Tryd.prog 11 #[.string s] w fun e w' => e = .returned (unqV (unqL s.data.toList)) ∧ Below w.heap.size w w' := by
  by_cases hz : s.size = 0
  · have he : s.toList.isEmpty = true := by rw [empty_iff]; simpa using hz
    have hu := Lib.hid (unqL_zero s hz)
    clear hz
    go_enter Tryd.func11, Tryd.ntmps11
    go_wp2_with fail
    go_ret3
    exact ⟨ret_unq_no hu.out, Below.refl _ _⟩
  have he : s.toList.isEmpty = false := by rw [empty_iff]; simpa using hz
  have hpos : 0 < s.size := by omega
  clear hz
  cases h0 : ((s[0].toNat : Int) == 34)
  · have h0' := bne_t h0
    go_enter Tryd.func11, Tryd.ntmps11
    go_wp2_with fail
    go_ret3
    exact ⟨ret_unq_no (unqL_no s (by omega) h0), Below.refl _ _⟩
  · have h0' := bne_f h0
    have hst := Lib.hid (unqL_mark s (by omega) h0)
    go_enter Tryd.func11, Tryd.ntmps11
    go_wp2_with fail
    clear h0 h0' he
    go_loopw [5, 6] (fun v i wr => ∃ (k : Nat) (acc : List UInt8), k ≤ s.size ∧ acc.length < k ∧ i = .int .i64 k ∧ OwnBytes wr w.heap.size 5 v acc ∧ Hid (unqL s.data.toList = unqGo (s.data.toList.drop k) acc k) ∧ Below w.heap.size w wr) (fun _ i _ => s.size - (intOf i).toNat)
    case atStart => exact ⟨1, [], by omega, Nat.zero_lt_one, rfl, OwnBytes.nil _ _ _, hst, Below.refl _ _⟩
    case round =>
      obtain ⟨k, acc, hk, hacc, rfl, ho, hp, hb⟩ := hrel
      have hsz := hb.size
      clear hst
      obtain ⟨va, vc, hv⟩ := ho.len
      subst hv
      by_cases hlt : k < s.size
      · by_cases hf : acc.length ≤ 512
        · go_wp2_with fail
          refine (quotable_any _ _).mono ?_
          rintro e w' ⟨rfl, rfl⟩
          cases hq : quot ↑s[k].toNat
          · have h34 := quot_34 _ hq
            have hbad := Lib.hid (unq_bad' s acc k hlt h34.1 h34.2 hq)
            clear h34
            go_wp2_with fail
            go_ret3
            exact ⟨ret_unq_no (hp.out.trans hbad.out), hb⟩
          · cases h1 : ((s[k].toNat : Int) == 34)
            · cases h3 : ((s[k].toNat : Int) == 92)
              · go_wp2_with (at_builtin; refine wpList_append_byte rfl (.tmp 68) (.tmp 72) 31 rfl w.heap.size 5 Tryd.underlying31 info5 _ _ wr.heap.size _ s[k] rfl rfl (ho.alloc _) (cell_new1 _ _ _) rfl (by omega) (by simp; omega) ?_)
                intro v1 w1 ho1 hg1
                have hb1 := below_grown (hb.alloc hsz _) hg1 (by simp; omega) (ho.alloc _)
                have hp1 := Lib.hid (hp.out.trans (unq_plain s acc k hlt hf h1 h3 hq))
                clear hg1 h1 h3 hq hp
                go_wp2_with fail
                exact ⟨⟨k + 1, _, by omega, by simp; omega, by go_num, ho1, hp1, hb1⟩, by simp [intOf]; omega⟩
              · by_cases hn : k + 1 < s.size
                · cases h4 : ((s[k + 1].toNat : Int) == 34)
                  case' true =>
                    have hh : Hid (((s[k + 1].toNat : Int) == 34) = true ∨ ((s[k + 1].toNat : Int) == 92) = true) := .inl h4
                    have h4' := bne_f h4
                  case' false => cases h5 : ((s[k + 1].toNat : Int) == 92)
                  case' false.true =>
                    have hh : Hid (((s[k + 1].toNat : Int) == 34) = true ∨ ((s[k + 1].toNat : Int) == 92) = true) := .inr h5
                    have h4' := bne_t h4
                    have h5' := bne_f h5
                  case' false.false =>
                    have h4' := bne_t h4
                    have h5' := bne_t h5
                    go_wp2_with fail
                    go_ret3
                    exact ⟨ret_unq_no (hp.out.trans (unq_esc_bad' s _ k hn h1 h3 h4 h5)), hb⟩
                  all_goals
                    go_wp2_with (at_builtin; refine wpList_append_byte rfl (.tmp 68) (.tmp 72) 31 rfl w.heap.size 5 Tryd.underlying31 info5 _ _ wr.heap.size _ s[k + 1] rfl rfl (ho.alloc _) (cell_new1 _ _ _) rfl (by omega) (by simp; omega) ?_)
                    intro v1 w1 ho1 hg1
                    have hb1 := below_grown (hb.alloc hsz _) hg1 (by simp; omega) (ho.alloc _)
                    have hp1 := Lib.hid (hp.out.trans (unq_esc s acc k hn hf h1 h3 hh.out))
                    clear hg1 h1 h3 hq hp h4' h4
                    go_wp2_with fail
                    exact ⟨⟨k + 2, _, by omega, by simp; omega, by go_num, ho1, hp1, hb1⟩, by simp [intOf]; omega⟩
                · go_wp2_with fail
                  go_ret3
                  exact ⟨ret_unq_no (hp.out.trans (unq_esc_end' s _ k hlt h1 h3 (by omega))), hb⟩
            · have kb := ho.back (P := Tryd.prog) 31 9 Tryd.underlying31 Tryd.underlying5 Tryd.underlying9
              have hm := Lib.hid (hp.out.trans (unq_mark s _ k hlt hf h1))
              go_wp2_with fail
              go_ret3
              exact ⟨ret_unq_yes hm.out rfl (by omega), hb⟩
        · go_wp2_with fail
          refine (quotable_any _ _).mono ?_
          rintro e w' ⟨rfl, rfl⟩
          cases hq : quot ↑s[k].toNat
          all_goals
            go_wp2_with fail
            go_ret3
            exact ⟨ret_unq_no (hp.out.trans (unq_full _ _ _ (by omega))), hb⟩
      · go_wp2_with fail
        go_ret3
        exact ⟨ret_unq_no (hp.out.trans (unq_end s _ k (by omega))), hb⟩
end Go.Proofs.YtphahhmfijgalaaDoor
