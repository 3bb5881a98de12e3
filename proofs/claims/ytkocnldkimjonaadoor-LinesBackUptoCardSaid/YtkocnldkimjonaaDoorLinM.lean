/- What is heard of any bytes, in any pieces, is the document's: the walk of LinesHears. -/
import Derived.Test.YtkocnldkimjonaaDoorLinL
import Derived.Test.YtkocnldkimjonaaDoorRd
namespace Go.Proofs.YtkocnldkimjonaaDoor
open Go.RowKit

theorem ZooAt.grown {B : Nat} {w w' : World} {L : List (Nat × FS)} {O : List (Value × List (Nat × List UInt8))} {v v' : Value} {hs hs' : List (Nat × List UInt8)} (h : ZooAt B w L O) (hm : (v, hs) ∈ O) (hB : ∀ x ∈ L, x.1 < w.heap.size) (hg : w.grownBy w' v.ownBlock) (ho : OwnHeards w' B v' hs') (hv : ∀ g, v'.ownBlock = some g → v.ownBlock = some g ∨ w.heap.size ≤ g) : ZooAt B w' L [(v', hs')] := by
  obtain ⟨A, h⟩ := h
  have hz := h.outs _ hm
  refine ⟨A, fun i x hx => ?_, h.apart, fun z hz' => ?_⟩
  · obtain ⟨c, hf⟩ := h.feed i x hx
    exact ⟨c, hf.grown hg (hz.2 i x hx).1 (hz.2 i x hx).2⟩
  · have : z = (v', hs') := by simpa using hz'
    subst this
    refine ⟨ho, fun i x hx => ⟨fun e => ?_, fun d hd e => ?_⟩⟩
    · rcases hv _ e with h1 | h1
      · exact (hz.2 i x hx).1 h1
      · have := hB x (List.mem_of_getElem? hx); omega
    · obtain ⟨c, hf⟩ := h.feed i x hx
      rcases hv _ e with h1 | h1
      · exact (hz.2 i x hx).2 d hd h1
      · have := (hf.text_lt d hd).2; omega
theorem ZooAt.lt {B : Nat} {w : World} {L : List (Nat × FS)} {O : List (Value × List (Nat × List UInt8))} (h : ZooAt B w L O) : ∀ x ∈ L, x.1 < w.heap.size := fun x hx => by
  obtain ⟨A, h⟩ := h
  obtain ⟨i, hi⟩ := List.getElem?_of_mem hx
  obtain ⟨c, hf⟩ := h.feed i x hi
  exact hf.lt
theorem heardCells_one (l : List (Nat × List UInt8)) : ∀ u ∈ heardCells l, u.oneCell' = true := fun u hu => by
  simp only [heardCells, List.mem_flatMap] at hu
  obtain ⟨y, _, hu⟩ := hu
  simp at hu
  rcases hu with rfl | rfl <;> rfl
theorem below_drewN {B : Nat} {a w : World} (h : Below B a w) (n : Nat) : Below B a (w.drewN n) := ⟨h.os, h.tape, h.output, h.size, h.block⟩
set_option maxHeartbeats 1000000 in
theorem stands_any (W0 w : World) (h0 : Hid (Below W0.heap.size W0 w)) {L : List (Nat × FS)} {O : List (Value × List (Nat × List UInt8))} (h : Hid (ZooAt W0.heap.size w L O)) (i b : Nat) (st : FS) (hi : L[i]? = some (b, st)) :
    Calls Tryd.prog 13 #[.pointer (some ⟨b, 0, none⟩), .agg #[.int .i64 st.left, .int .i64 st.text.length, .bool st.deaf]] w fun e w' => e = .returned (.bool true) ∧ Hid (ZooAt W0.heap.size w' L O) ∧ Hid (Below W0.heap.size W0 w') := by
  have hz : ∀ n o, Hid (ZooAt W0.heap.size ((w.alloc o).drewN n) L O) := fun n o => Lib.hid ((h.out.below (below_alloc _ o)).drewN n)
  have c1 : ∀ n o, Calls Tryd.prog 14 #[.pointer (some ⟨b, 0, none⟩)] ((w.alloc o).drewN n) fun e w' => e = .returned (.int .i64 st.left) ∧ w' = (w.alloc o).drewN n := fun n o => (zoo_waits (hz n o) i b st hi).mono fun _ _ ⟨h1, h2⟩ => ⟨h1, h2.symm⟩
  have c2 : ∀ n o, Calls Tryd.prog 15 #[.pointer (some ⟨b, 0, none⟩)] ((w.alloc o).drewN n) fun e w' => e = .returned (.int .i64 st.text.length) ∧ w' = (w.alloc o).drewN n := fun n o => (zoo_size (hz n o) i b st hi).mono fun _ _ ⟨h1, h2⟩ => ⟨h1, h2.symm⟩
  have c3 : ∀ n o, Calls Tryd.prog 16 #[.pointer (some ⟨b, 0, none⟩)] ((w.alloc o).drewN n) fun e w' => e = .returned (.bool st.deaf) ∧ w' = (w.alloc o).drewN n := fun n o => (zoo_deaf (hz n o) i b st hi).mono fun _ _ ⟨h1, h2⟩ => ⟨h1, h2.symm⟩
  replace c1 := Lib.hid c1
  replace c2 := Lib.hid c2
  replace c3 := Lib.hid c3
  replace hz := Lib.hid hz
  go_enter Tryd.func13, Tryd.ntmps13
  go_wp2_with fail
  go_quiet (first | (go_at_call 14; exact Calls.quiet_of_same (c1.out _ _)) | (go_at_call 15; exact Calls.quiet_of_same (c2.out _ _)) | (go_at_call 16; exact Calls.quiet_of_same (c3.out _ _)))
  all_goals
    go_wp2_with fail
    go_ret
    exact ⟨by simp, hz.out _ _, Lib.hid (below_drewN (h0.out.alloc h0.out.size _) _)⟩
theorem OwnHeards.later {w w' : World} {B : Nat} {v : Value} {l : List (Nat × List UInt8)} (h : OwnHeards w B v l) (hb : Below w.heap.size w w') : OwnHeards w' B v l := h.of_block fun k hk => hb.block k (World.ownsRow.lt h k hk).2
set_option maxRecDepth 100000 in
set_option maxHeartbeats 2000000 in
theorem linesHears_any (v : Value) (ss : List ByteArray) (w : World) (hr : Rd w v ss.length (strCells ss)) (hb : (catB ss).length ≤ 1048576) (hn : ss.length ≤ 1048576) (ht : Tab w) (he : Errs w) :
    Calls Tryd.prog 3 #[v] w fun e w' => e = .returned (.bool true) ∧ Below w.heap.size w w' := by
  have hr0 := Lib.hid hr
  obtain ⟨ao, cap, rfl, -⟩ := hr
  replace hb := Lib.hid hb
  have g0 : Hid (Good fs0) := Lib.hid Good.new
  go_enter Tryd.func3, Tryd.ntmps3
  go_wp2_with fail
  refine (alive_any w ht he).mono ?_
  rintro e w1 ⟨rfl, b1⟩
  replace b1 := Lib.hid b1
  have z1 : Hid (ZooAt w.heap.size w1 [] []) := Lib.hid (ZooAt.nil _ _)
  go_wp2_with fail
  refine (zoo_new w w1 b1 z1).mono ?_
  rintro e w2 ⟨f, rfl, z2, b2⟩
  replace z2 : Hid (ZooAt w.heap.size w2 [(f, fs0)] []) := z2
  clear b1 z1
  go_wp2_with fail
  go_loopw [4, 5, 6] (fun v va vi wr => ∃ (k : Nat) (A : ByteArray), vi = .int .i64 k ∧ va = .string A ∧ k ≤ ss.length ∧ Hid (A.data.toList = catB (ss.take k)) ∧ Hid (ZooAt w.heap.size wr [(f, fin (feedGo fs0 A.data.toList).1)] [(v, (feedGo fs0 A.data.toList).2)]) ∧ Hid (Below w.heap.size w wr)) (fun _ _ vi _ => ss.length - (intOf vi).toNat)
  case atStart =>
    refine ⟨0, ⟨#[]⟩, rfl, rfl, Nat.zero_le _, Lib.hid rfl, Lib.hid ?_, b2⟩
    obtain ⟨A, hA⟩ := z2.out
    refine ⟨A, hA.feed, hA.apart, fun z hz => ?_⟩
    obtain rfl := List.mem_singleton.1 hz
    exact ⟨World.ownsRow_nil _ _ _ _, fun _ _ _ => ⟨by simp [Value.ownBlock], fun _ _ => by simp [Value.ownBlock]⟩⟩
  case round =>
    obtain ⟨k, A, rfl, rfl, hk, hA, hz, hbel⟩ := hrel
    by_cases hlt : k < ss.length
    · obtain ⟨b, o, hao, hbl, hcell⟩ := hr0.out.at_pos (by omega)
      subst hao
      have hc : wr.cell? ⟨b, o + k, none⟩ = some (.string ss[k]) := (hbel.out.cell (p := ⟨b, o + k, none⟩) hbl).trans (hcell k _ (strCells_at ss k hlt))
      have hlen : (catB (ss.take k)).length + ss[k].size ≤ 1048576 := by
        have h1 := catB_len ss (k + 1)
        rw [catB_snoc ss k hlt, List.length_append, ← size_len] at h1
        have := hb.out
        omega
      have hAs : A.size + ss[k].size ≤ 1048576 := by rw [size_len A, hA.out]; exact hlen
      have hsk : ss[k].size ≤ 1048576 := by omega
      have hAS : (A ++ ss[k]).size ≤ 1048576 := by rw [ByteArray.size_append]; exact hAs
      have hgood : Hid (Good (fin (feedGo fs0 A.data.toList).1)) := Lib.hid (Good.go _ Good.new).fin
      have hpe := Lib.hid (pieces_eq A.data.toList ss[k].data.toList)
      have hcat : Hid ((A ++ ss[k]).data.toList = A.data.toList ++ ss[k].data.toList) := Lib.hid (toList_app _ _)
      have hl1 : (feedGo fs0 A.data.toList).2.length ≤ 1048576 := by
        have := feedGo_len A.data.toList fs0
        rw [← size_len] at this; omega
      have hl2 : (feedGo (fin (feedGo fs0 A.data.toList).1) ss[k].data.toList).2.length ≤ 1048576 := by
        have := feedGo_len ss[k].data.toList (fin (feedGo fs0 A.data.toList).1)
        rw [← size_len] at this; omega
      replace hcell := Lib.hid hcell
      go_wp2_with fail
      refine (zoo_feed w wr ht he hbel hz 0 f _ rfl hgood ss[k] hsk).mono ?_
      rintro e w3 ⟨v3, rfl, z3, b3⟩
      replace z3 : Hid (ZooAt w.heap.size w3 [(f, fin (feedGo (fin (feedGo fs0 A.data.toList).1) ss[k].data.toList).1)] [(v3, _), (u4, _)]) := z3
      have o3 := Lib.hid (z3.out.out v3 _ (.head _))
      have o4 := Lib.hid (z3.out.out u4 _ (.tail _ (.head _)))
      have hl3 : w.heap.size ≤ w3.heap.size := b3.out.size
      go_wp2_with (at_builtin; refine wpList_append_rd rfl (.tmp 18) (.tmp 24) 26 rfl w.heap.size 45 _ 2 24 Tryd.underlying26 heard_info rfl (by decide) u4 v3 _ _ _ _ rfl rfl o4.out (Rd.of_own o3.out) (heardCells_len _) (heardCells_one _) (by unfold maxLen; omega) (by omega) hl3 ?_)
      intro v4 w4 ho4 hg4 hv4
      have o5 : OwnHeards w4 w.heap.size v4 (feedGo fs0 (A ++ ss[k]).data.toList).2 := by
        unfold OwnHeards
        rw [hcat.out, hpe.out.2, List.length_append, show heardCells ((feedGo fs0 A.data.toList).2 ++ (feedGo (fin (feedGo fs0 A.data.toList).1) ss[k].data.toList).2) = heardCells (feedGo fs0 A.data.toList).2 ++ heardCells (feedGo (fin (feedGo fs0 A.data.toList).1) ss[k].data.toList).2 by simp [heardCells]]
        exact ho4
      have b4 : Below w.heap.size w w4 := b3.out.grown hg4 b3.out.size (fun k hk => (World.ownsRow.lt o4.out k hk).1)
      have z4 := z3.out.grown (.tail _ (.head _)) z3.out.lt hg4 o5 hv4
      rw [← hpe.out.1, ← hcat.out] at z4
      have hc4 : w4.cell? ⟨b, o + k, none⟩ = some (.string ss[k]) := (b4.cell (p := ⟨b, o + k, none⟩) hbl).trans (hcell.out k _ (strCells_at ss k hlt))
      replace z4 := Lib.hid z4
      replace b4 := Lib.hid b4
      replace o5 := Lib.hid o5
      clear ho4 hg4 hv4 z3 b3 o3 o4
      go_wp2_with fail
      obtain ⟨S', hS'⟩ : ∃ S', Hid (fin (feedGo fs0 (A ++ ss[k]).data.toList).1 = S') := ⟨_, Lib.hid rfl⟩
      have hh := hear_any w4 (A ++ ss[k]) hAS
      rw [hS'.out] at hh
      replace z4 : Hid (ZooAt w.heap.size w4 [(f, S')] [(v4, (feedGo fs0 (A ++ ss[k]).data.toList).2)]) := Lib.hid (by rw [← hS'.out]; exact z4.out)
      refine hh.mono ?_
      clear hh
      rintro e w5 ⟨v5, rfl, o6, b5⟩
      have hl6 : (feedGo fs0 (A ++ ss[k]).data.toList).2.length ≤ 4194304 := by
        have := feedGo_len (A ++ ss[k]).data.toList fs0
        rw [← size_len] at this; omega
      have z5 := Lib.hid (fun o => z4.out.below (b5.trans ((below_alloc w5 o).mono b5.size)))
      have b6 := Lib.hid (fun o => b4.out.trans ((b5.trans ((below_alloc w5 o).mono b5.size)).mono b4.out.size))
      have o7 := Lib.hid (fun o => o5.out.later (b5.trans ((below_alloc w5 o).mono b5.size)))
      have o8 := Lib.hid (fun o => o6.later (below_alloc w5 o))
      clear b5 o6 o5
      go_wp2_with fail
      refine (same_any _ _ _ v4 v5 _ (o7.out _) (o8.out _) hl6).mono ?_
      rintro e w6 ⟨rfl, n, rfl⟩
      have z6 := Lib.hid (fun o => (z5.out o).drewN n)
      have b7 := Lib.hid (fun o => below_drewN (b6.out o) n)
      clear o7 o8 z5 b6
      go_wp2_with fail
      refine (stands_any w _ (b7.out _) (z6.out _) 0 f S' rfl).mono ?_
      rintro e w8 ⟨rfl, z8, b8⟩
      clear z6 b7
      go_wp2_with fail
      go_roundw
      case rel => exact ⟨k + 1, A ++ ss[k], by go_num, rfl, by omega, Lib.hid (by rw [toList_app, hA.out, catB_snoc ss k hlt]), Lib.hid (by rw [hS'.out]; exact z8.out), b8⟩
      case measure => simp [intOf]; omega
    · go_wp2_with fail
      go_ret
      exact ⟨rfl, hbel.out⟩
end Go.Proofs.YtkocnldkimjonaaDoor
