/- Cut: walked. -/
import Derived.Test.YtjopbglimjhefaaNeN
namespace Go.Proofs.Ytjopbglimjhefaa
open Go.RowKit Go.Maps Go.WideMaps

theorem NetAt.cutTo {W W' : World} {b m : Nat} {v : Value} {l : List Pk} {now last N N' : Nat} {C C' : Int → Int → Bool} {D : DM} (h : NetAt W b m v l now last N C) (hg : W.grownBy W' (some m)) (ho : W'.ownsMap Try.prog 57 RB m N' D) (hc : CutsD D C') : NetAt W' b m v l now last N' C' ∧ NSame W b m v W' := by
  have hk : ∀ k, k < W.heap.size → k ≠ m → W'.heap[k]? = W.heap[k]? := fun k hk h1 => hg.block k hk (fun e => h1 (by injection e))
  have kb := hk b h.fl.lt (Ne.symm h.mb)
  exact ⟨⟨⟨(World.cell?_of_block kb).trans h.fl.1, (World.frozen?_of_block kb).trans h.fl.2.1, h.fl.2.2.1.block (fun g hgv => hk g (h.fl.2.2.1.lt hgv) (fun e => h.mv (by rw [hgv, e]))), h.fl.2.2.2⟩, (World.cell?_of_block kb).trans h.now, (World.cell?_of_block kb).trans h.last, (World.cell?_of_block kb).trans h.cut, (World.frozen?_of_block kb).trans h.f1, (World.frozen?_of_block kb).trans h.f2, ⟨D, ho, hc⟩, h.mb, h.mv⟩, ⟨hg.os, hg.tape, hg.output, hg.size, fun k hk1 _ h2 _ => hk k hk1 h2⟩⟩
set_option maxRecDepth 100000 in
set_option maxHeartbeats 4000000 in
theorem cut_any (b m : Nat) (v : Value) (l : List Pk) (now last N : Nat) (C : Int → Int → Bool) (x y : Int) (c : Bool) (hN : N < 1000000) (W : World) (h : NetAt W b m v l now last N C) :
    Calls Try.prog 11 #[.pointer (some ⟨b, 0, none⟩), .int .i64 x, .int .i64 y, .bool c] W (CutRet W b m v l now last N C x y c) := by
  have hlk := Lib.hid (link_any x y W)
  replace h := Lib.hid h
  go_enter Try.func11, Try.ntmps11
  go_wp2_with fail
  refine hlk.out.mono ?_
  rintro e w1 ⟨x1, y1, ok, rfl, hxy, hb1⟩
  have hok : ok = linkB x y := by
    have := hxy.out.2.2
    rw [hxy.out.1, hxy.out.2.1, linkB_iff] at this
    cases ok <;> cases hq : linkB x y <;> simp_all
  subst hok
  clear hlk
  have hB := Lib.hid ((hb1.out).alloc hb1.out.size (.cells #[.int .i64 x1, .int .i64 y1] 57))
  cases hq : linkB x y
  · replace hq := Lib.hid hq
    clear hxy hb1
    go_wp2_with fail
    go_ret
    exact .inl ⟨hq.out, rfl, hB⟩
  · have hLk : Hid (Lk x1 y1) := Lib.hid (hxy.out.2.2.1 hq)
    replace hq := Lib.hid hq
    have h2 := h.out.below hB.out
    have hS2 := Lib.hid (NSame.of_below hB.out b m v)
    have hbl := (h.out.below hb1.out).fl.lt
    have hbs : b ≠ w1.heap.size := by omega
    have c3 := (h.out.below hb1.out).cut
    have k3 := h2.cut
    have hbk := heap_alloc_new w1 (.cells #[.int .i64 x1, .int .i64 y1] 57)
    have x0 : (w1.alloc (.cells #[.int .i64 x1, .int .i64 y1] 57)).cell? ⟨w1.heap.size, 0, none⟩ = some (.int .i64 x1) := (cell_at hbk 0).trans rfl
    have x2 : (w1.alloc (.cells #[.int .i64 x1, .int .i64 y1] 57)).cell? ⟨w1.heap.size, 1, none⟩ = some (.int .i64 y1) := (cell_at hbk 1).trans rfl
    clear hbk
    replace k3 := Lib.hid k3
    replace x0 := Lib.hid x0
    replace x2 := Lib.hid x2
    have hD : Below (w1.alloc (.cells #[.int .i64 x1, .int .i64 y1] 57)).heap.size (w1.alloc (.cells #[.int .i64 x1, .int .i64 y1] 57)) (w1.alloc (.cells #[.int .i64 x1, .int .i64 y1] 57)).drew := (Below.refl _ _).drew
    have h3 := h2.below hD
    have hS3 := Lib.hid (hS2.out.trans (Later.refl _ _) (NSame.of_below hD b m v))
    obtain ⟨D, hm, hc⟩ := h3.map
    have hkey := Lib.hid (keyL_of hLk.out)
    have hisM := Lib.hid hm.isMap
    replace hm := Lib.hid hm
    replace hc := Lib.hid hc
    replace h3 := Lib.hid h3
    clear h2 hD hS2
    have hxy' : Hid (x1 = lo x y ∧ y1 = hi x y) := Lib.hid ⟨hxy.out.1, hxy.out.2.1⟩
    clear hxy hb1
    cases c
    · go_wp2_with fail
      generalize w1.alloc (.cells #[.int .i64 x1, .int .i64 y1] 57) = w2 at h3 hm hB hS3 k3 x0 x2 ⊢
      have k3 := k3.out
      have x0 := x0.out
      have x2 := x2.out
      go_still_tail 5, (by kernel_rfl)
      change wpList _ _ _ _ _ w2.drew
      clear k3 x0 x2
      go_wp2_with (at_delete; refine wpList_delete_own _ rfl _ _ 53 57 rfl 4 net_key Try.underlying53 RB m N D rfl hm.out _ (keyL x1 y1) rfl hkey.out ?_)
      intro w4 ho4 ht4
      have hfin := h3.out.cutTo ht4.grown (ho4.mono (Nat.le_succ N)) (hc.out.del hLk.out)
      rw [hxy'.out.1, hxy'.out.2] at hfin
      have hF := Lib.hid hfin.1
      have hS := Lib.hid (hS3.out.trans (Later.refl _ _) hfin.2)
      clear hfin ho4 ht4 hm hc hkey hisM
      go_wp2_with fail
      go_ret
      exact .inr ⟨hq.out, rfl, hF, hS⟩
    · go_wp2_with fail
      generalize w1.alloc (.cells #[.int .i64 x1, .int .i64 y1] 57) = w2 at h3 hm hB hS3 k3 x0 x2 ⊢
      have k3 := k3.out
      have x0 := x0.out
      have x2 := x2.out
      go_still_tail 5, (by kernel_rfl)
      change wpList _ _ _ _ _ w2.drew
      clear k3 x0 x2
      go_wp2_with (at_mapUpdate; refine wpList_mapUpdate_in _ rfl _ _ _ 53 rfl 57 4 net_key Try.underlying53 RB m N D rfl hm.out (by unfold maxLen; omega) _ _ (keyL x1 y1) rfl rfl hkey.out (.lit (.bool true)) [] (plainElem_bool Try.underlying4 true) ?_)
      intro w4 ho4 ht4
      have hfin := h3.out.cutTo ht4.grown ho4 (hc.out.put hisM.out hLk.out true)
      rw [hxy'.out.1, hxy'.out.2] at hfin
      have hF := Lib.hid hfin.1
      have hS := Lib.hid (hS3.out.trans (Later.refl _ _) hfin.2)
      clear hfin ho4 ht4 hm hc hkey hisM
      go_wp2_with fail
      go_ret
      exact .inr ⟨hq.out, rfl, hF, hS⟩
end Go.Proofs.Ytjopbglimjhefaa
