/- However bytes are cut in two, the same is heard of them: the walk of LinesPieces. -/
import Derived.Test.YtkocnldkimjonaaDoorLinG
import Derived.Deep.RegionWith
import Derived.Deep.RegionLaw
import Derived.Deep.CutRange
import Derived.Deep.DeepCutAuto
namespace Go.Proofs.YtkocnldkimjonaaDoor
open Go.RowKit

theorem OwnHeards.low {w : World} {B B' : Nat} {v : Value} {l : List (Nat × List UInt8)} (h : OwnHeards w B v l) (hB : B' ≤ B) : OwnHeards w B' v l := by
  rcases h with ⟨h1, h2 | ⟨g, cap, cur, hv, hb, r⟩⟩
  · exact ⟨h1, .inl h2⟩
  · exact ⟨h1, .inr ⟨g, cap, cur, hv, Nat.le_trans hB hb, r⟩⟩
theorem pieces_eq (l m : List UInt8) : fin (feedGo fs0 (l ++ m)).1 = fin (feedGo (fin (feedGo fs0 l).1) m).1 ∧ (feedGo fs0 (l ++ m)).2 = (feedGo fs0 l).2 ++ (feedGo (fin (feedGo fs0 l).1) m).2 := by
  rw [feedGo_app, (feedGo_fin _ m).1, (feedGo_fin _ m).2]
  exact ⟨rfl, rfl⟩
theorem FeedAt.drew {B : Nat} {w : World} {b c : Nat} {a : Option Addr} {st : FS} (h : FeedAt B w b a c st) : FeedAt B w.drew b a c st := ⟨h.low, h.cells, h.own.of_block (fun _ _ => rfl), h.apart⟩
theorem OwnHeards.keep {B B2 : Nat} {w w' : World} {b : Nat} {a0 : Option Addr} {v v2 : Value} {st : FS} {hs l : List (Nat × List UInt8)} (h : OwnHeards w B2 v2 l) (r : Run B w b a0 v w' st hs) (hb : v2.ownBlock ≠ some b) (ha : ∀ d, a0 = some d → v2.ownBlock ≠ some d.block) : OwnHeards w' B2 v2 l :=
  h.of_block fun k hk => r.kept.block k (World.ownsRow.lt h k hk).2 (fun e => hb (by rw [hk, e])) (fun d hd e => ha d hd (by rw [hk, e]))
theorem OwnHeards.not_lt {B b : Nat} {w : World} {v : Value} {l : List (Nat × List UInt8)} (h : OwnHeards w B v l) (hb : b < B) : v.ownBlock ≠ some b := fun e => by have := (World.ownsRow.lt h b e).1; omega
theorem FeedAt.grown {B : Nat} {w w' : World} {b c : Nat} {a : Option Addr} {st : FS} {row : Option Nat} (h : FeedAt B w b a c st) (hg : w.grownBy w' row) (hb : row ≠ some b) (ha : ∀ d, a = some d → row ≠ some d.block) : FeedAt B w' b a c st :=
  ⟨h.low, (hg.block b h.lt (fun e => hb e.symm)).trans h.cells, h.own.of_block (fun k hk => by
    cases a with
    | none => simp [Value.ownBlock] at hk
    | some d =>
      have : d.block = k := by simpa [Value.ownBlock] using hk
      subst this
      exact hg.block _ (h.text_lt d rfl).2 (fun e => ha d rfl e.symm)), h.apart⟩
theorem OwnHeards.grown {B : Nat} {w w' : World} {v : Value} {l : List (Nat × List UInt8)} {row : Option Nat} (h : OwnHeards w B v l) (hg : w.grownBy w' row) (hb : ∀ k, v.ownBlock = some k → row ≠ some k) : OwnHeards w' B v l :=
  h.of_block fun k hk => hg.block k (World.ownsRow.lt h k hk).2 (fun e => hb k hk e.symm)
theorem heardCells_len : ∀ l : List (Nat × List UInt8), (heardCells l).length = l.length * 2
  | [] => rfl
  | y :: r => by
    have := heardCells_len r
    show (heardCells r).length + 1 + 1 = (r.length + 1) * 2
    omega
theorem step_append_heards {w : World} {ops : Array Oper} {o : Oper} {a : Act} {K : Act → World → Prop} {Q : Exit → Act → World → Prop} {E : Prop} (hgd : o.guard = none) (s x : Operand)
    (ho : o.op = .call { callee := .builtin .append, args := #[s, x], argTypes := #[26, 26] }) (B B2 : Nat) (v v2 : Value) (l l2 : List (Nat × List UInt8)) (hs : a.eval s = v) (hx : a.eval x = v2)
    (hown : OwnHeards w B v l) (hown2 : OwnHeards w B2 v2 l2) (hlen : l.length + l2.length ≤ 4194304) (hbase : B ≤ w.heap.size)
    (h : ∀ v' w', OwnHeards w' B v' (l ++ l2) → w.grownBy w' v.ownBlock → K (a.put o.dst v') w') : if Region.wanted o (yielded ops a.tmps) = true then Oper.wp Tryd.prog o a w K Q else E := by
  have hw : Region.wanted o (yielded ops a.tmps) = true := by simp [Region.wanted, hgd]
  rw [if_pos hw]
  obtain ⟨i, hi0, hz, hz1, hz2⟩ := info_parts heard_info
  rcases hown2.form with ⟨rfl, rfl⟩ | ⟨g, c, rfl⟩
  · have hrun := run_append_owned_none (P := Tryd.prog) (w := w) B 26 o.type 45 i 2 Tryd.underlying26 hi0 v l.length (heardCells l) hown
    unfold Oper.wp
    simp [execOp, ho, resolve, invoke, builtin, hs, hx, hrun, Result.andThen]
    exact h _ _ (by simpa using hown) ⟨rfl, rfl, rfl, Nat.le_refl _, fun _ _ _ => rfl⟩
  · refine wp_append_own w s x 26 ho B 45 i _ 2 24 Tryd.underlying26 hi0 hz hz1 hz2 rfl (by decide) v l.length (heardCells l) hs hown ⟨g, 0, none⟩ l2.length c (heardCells l2) hx ?_ ?_ ?_ (by unfold maxLen; omega) (by omega) hbase ?_
    · exact heardCells_len l2
    · intro j u hj
      exact World.ownsRow.cells hown2 (g := g) rfl j u hj
    · intro u hu
      simp only [heardCells, List.mem_flatMap] at hu
      obtain ⟨y, _, hu⟩ := hu
      simp at hu
      rcases hu with rfl | rfl <;> rfl
    · intro v' w' ho' hg' _
      refine h v' w' ?_ hg'
      unfold OwnHeards
      rw [List.length_append, show heardCells (l ++ l2) = heardCells l ++ heardCells l2 by simp [heardCells]]
      exact ho'
set_option maxRecDepth 100000 in
set_option maxHeartbeats 1000000 in
theorem linesPieces_any (s : ByteArray) (at_ : Int) (hs : s.size ≤ 1048576) (_hn : (Lit.int .i64 at_).wf = true) (w : World) (ht : Tab w) (he : Errs w) :
    Calls Tryd.prog 4 #[.string s, .int .i64 at_] w fun e w' => e = .returned (.bool true) ∧ Below w.heap.size w w' := by
  go_enter Tryd.func4, Tryd.ntmps4
  go_wp2_with fail
  refine (alive_any w ht he).mono ?_
  rintro e w1 ⟨rfl, b1⟩
  go_wp2_with fail
  refine (new_any w.heap.size w1 b1.size).mono ?_
  obtain ⟨k, hk, ek⟩ : ∃ k : Nat, k ≤ s.size ∧ wrap64 ((IntKind.u64.wrap at_).tmod ((s.size : Int) + 1)) = k := by
    have h3 : 0 ≤ IntKind.u64.wrap at_ := Int.emod_nonneg _ (by decide)
    have h4 := Int.tmod_nonneg ((s.size : Int) + 1) h3
    have h5 := Int.tmod_lt_of_pos (IntKind.u64.wrap at_) (show (0 : Int) < (s.size : Int) + 1 by omega)
    refine ⟨((IntKind.u64.wrap at_).tmod ((s.size : Int) + 1)).toNat, by omega, ?_⟩
    rw [Int.toNat_of_nonneg h4]
    unfold wrap64
    omega
  rintro e w2 ⟨rfl, f2, bb2, z2⟩
  rw [ek]
  go_wp2_with fail
  refine (new_any w.heap.size w2 (by have := b1.size; omega)).mono ?_
  rintro e w3 ⟨rfl, g3, bb3, z3⟩
  go_wp2_with fail
  have b3 : Below w.heap.size w w3 := (b1.trans (bb2.mono b1.size)).trans (bb3.mono (by have := b1.size; omega))
  have f3 := f2.later bb3
  refine (feed_any w w3 ht he b3 w1.heap.size none 0 fs0 f3 Good.new s hs).mono ?_
  rintro e w4 ⟨v4, rfl, r4⟩
  obtain ⟨a4, c4, f4, n4, p4⟩ := r4.at_
  have g4 := g3.of_kept r4.kept (by omega) (fun _ hd => by cases hd) (fun _ hd => by cases hd) (fun _ _ hd => by cases hd)
  have hz4 := r4.kept.size
  have b4 := r4.kept.below b3 b3.size b1.size (fun _ hd => by cases hd)
  obtain ⟨R, hR⟩ : ∃ R : Value → World → Prop, Hid (∀ v wx, R v wx ↔ OwnHeards wx w.heap.size v (feedGo fs0 s.data.toList).2 ∧ OwnHeards wx w.heap.size v4 (feedGo fs0 s.data.toList).2 ∧ (∃ a c, FeedAt w.heap.size wx w1.heap.size a c (fin (feedGo fs0 s.data.toList).1)) ∧ (∃ a c, FeedAt w.heap.size wx w2.heap.size a c (fin (feedGo fs0 s.data.toList).1)) ∧ Below w.heap.size w wx) := ⟨_, Lib.hid fun _ _ => Iff.rfl⟩
  go_wp2_with fail
  go_cut [8] (fun v wx => R v wx)
  case first =>
    have g4d : FeedAt w.heap.size w4.drew (w1.heap.size + 1) none 0 fs0 := z2 ▸ g4.drew
    have f4d := f4.drew
    have hs1 : (s.extract 0 k).size ≤ 1048576 := by rw [ByteArray.size_extract]; omega
    have hs2 : (s.extract k s.size).size ≤ 1048576 := by rw [ByteArray.size_extract]; omega
    go_region_law (first
      | (refine step_append_heards rfl (.tmp 28) (.tmp 33) rfl w.heap.size w.heap.size v5 v6 _ _ (by simp [Act.eval]) (by simp [Act.eval]) h56.out (r6.out.low b5.out.size) hlen.out b6.out.size ?_; intro v7 w7 ho7 hg7)
      | (go_simp
         go_at_call_of 10 (Value.string (s.extract 0 k))
         refine (feed_any w w4.drew ht he b4.drew (w1.heap.size + 1) none 0 fs0 g4d Good.new _ hs1).mono ?_
         rintro e w5 ⟨v5, rfl, r5⟩
         obtain ⟨a5, c5, f5, n5, p5⟩ := r5.at_
         have b5 := Lib.hid (r5.kept.below b4.drew b4.size (by have := b1.size; omega) (fun _ hd => by cases hd)))
      | (go_simp
         go_at_call_of 10 (Value.string (s.extract k s.size))
         refine (feed_any w w5 ht he b5.out (w1.heap.size + 1) a5 c5 _ f5 (Good.go _ Good.new).fin _ hs2).mono ?_
         rintro e w6 ⟨v6, rfl, r6⟩
         have b6 := Lib.hid (r6.kept.below b5.out b5.out.size (by have := b1.size; omega) (fun d hd => (f5.text_lt d hd).1))
         have h56 : Hid (OwnHeards w6 w.heap.size v5 (feedGo fs0 (s.extract 0 k).data.toList).2) := Lib.hid ((r5.out.low b4.size).keep r6 (r5.out.not_lt (by show w1.heap.size + 1 < w4.heap.size; omega)) (fun d hd e => p5 d _ hd e rfl))
         have hlen : Hid ((feedGo fs0 (s.extract 0 k).data.toList).2.length + (feedGo (fin (feedGo fs0 (s.extract 0 k).data.toList).1) (s.extract k s.size).data.toList).2.length ≤ 4194304) := by
           have h1 := feedGo_len (s.extract 0 k).data.toList fs0
           have h2 := feedGo_len (s.extract k s.size).data.toList (fin (feedGo fs0 (s.extract 0 k).data.toList).1)
           rw [← size_len] at h1 h2
           exact Lib.hid (by omega)))
    have hcat : (s.extract 0 k).data.toList ++ (s.extract k s.size).data.toList = s.data.toList := by
      rw [ext_list, ext_list, List.drop_zero, Nat.sub_zero, List.take_of_length_le (l := s.data.toList.drop k) (by rw [List.length_drop, ← size_len]; omega), List.take_append_drop]
    have hpe := pieces_eq (s.extract 0 k).data.toList (s.extract k s.size).data.toList
    rw [hcat] at hpe
    obtain ⟨a6, c6, f6, n6, p6⟩ := r6.at_
    have hz5 := r5.kept.size
    have hz4' : w4.drew.heap.size = w4.heap.size := rfl
    have hv5 : ∀ k, v5.ownBlock = some k → w4.heap.size ≤ k := fun k hk => (World.ownsRow.lt r5.out k hk).1
    have hv4 : ∀ k, v4.ownBlock = some k → k < w4.heap.size := fun k hk => (World.ownsRow.lt r4.out k hk).2
    have ha5 : ∀ d, a5 = some d → w4.heap.size ≤ d.block := fun d hd => by
      rcases n5 d hd with h | h
      · cases h
      · exact h
    have ha4 : ∀ d, a4 = some d → w3.heap.size ≤ d.block ∧ d.block < w4.heap.size := fun d hd => by
      refine ⟨?_, (f4.text_lt d hd).2⟩
      rcases n4 d hd with h | h
      · cases h
      · exact h
    have f5' := f4d.of_kept r5.kept (by omega) (fun _ hd => by cases hd) (fun d hd => by have := ha4 d hd; omega) (fun _ _ hd => by cases hd)
    have f6' := f5'.of_kept r6.kept (by omega) (fun d hd => by have := ha5 d hd; omega) (fun d hd => by have := ha4 d hd; omega) (fun d d2 hd hd2 => by have := ha5 d hd; have := ha4 d2 hd2; omega)
    have f7' := f6'.grown hg7 (fun e => by have := hv5 _ e; omega) (fun d hd e => by have := hv5 _ e; have := ha4 d hd; omega)
    have g7' := f6.grown hg7 (fun e => by have := hv5 _ e; omega) (fun d hd e => by
      rcases n6 d hd with h | h
      · exact p5 d _ h e rfl
      · have := (World.ownsRow.lt r5.out _ e).2; omega)
    have k4 : OwnHeards w4.drew w3.heap.size v4 _ := r4.out.of_block (fun _ _ => rfl)
    have k5 := k4.keep r5 (k4.not_lt (by omega)) (fun _ hd => by cases hd)
    have k6 := k5.keep r6 (k5.not_lt (by omega)) (fun d hd e => by have := ha5 d hd; have := hv4 _ e; omega)
    have k7 := (k6.grown hg7 (fun k hk e => by have := hv5 k e; have := hv4 k hk; omega)).low b3.size
    have b7 := b6.out.grown hg7 b6.out.size (fun k hk => by have := hv5 k hk; have := b4.size; omega)
    have hfin := (hR.out v7 w7).2 ⟨by rw [hpe.2]; exact ho7, k7, ⟨_, _, f7'⟩, ⟨_, _, by rw [hpe.1, z2]; exact g7'⟩, b7⟩
    replace hfin := Lib.hid hfin
    apply_assumption
    go_meet
    exact hfin.out
  case rest =>
    obtain ⟨o8, o7, ⟨fa, fc, ff⟩, ⟨ga, gc, gf⟩, bb⟩ := (hR.out _ _).1 hcut
    rw [z2] at gf
    have hll : (feedGo fs0 s.data.toList).2.length ≤ 4194304 := by
      have := feedGo_len s.data.toList fs0
      rw [← size_len] at this
      omega
    have ffq := fun n => (⟨ff.low, ff.cells, ff.own.of_block (fun _ _ => rfl), ff.apart⟩ : FeedAt w.heap.size (wc.drewN n) w1.heap.size fa fc _)
    have gfq := fun n => (⟨gf.low, gf.cells, gf.own.of_block (fun _ _ => rfl), gf.apart⟩ : FeedAt w.heap.size (wc.drewN n) (w1.heap.size + 1) ga gc _)
    clear hcut hR
    replace ffq := Lib.hid ffq
    replace gfq := Lib.hid gfq
    replace bb := Lib.hid bb
    replace o7 := Lib.hid o7
    replace o8 := Lib.hid o8
    clear b1 b3 b4 bb2 bb3 r4 f4 g4 n4 p4 ff gf f2 f3 g3
    go_wp2_with fail
    refine (same_any _ _ wc _ _ _ o7.out o8.out hll).mono ?_
    rintro e wd ⟨rfl, n, rfl⟩
    go_wp2_with fail
    refine (waits_any _ _ _ _ _ _ (ffq.out n)).mono ?_
    rintro e w' ⟨rfl, rfl⟩
    go_wp2_with fail
    refine (waits_any _ _ _ _ _ _ (gfq.out n)).mono ?_
    rintro e w' ⟨rfl, rfl⟩
    go_wp2_with fail
    refine (size_any _ _ _ _ _ _ (ffq.out n)).mono ?_
    rintro e w' ⟨rfl, rfl⟩
    go_wp2_with fail
    refine (size_any _ _ _ _ _ _ (gfq.out n)).mono ?_
    rintro e w' ⟨rfl, rfl⟩
    go_wp2_with fail
    refine (deaf_any _ _ _ _ _ _ (ffq.out n)).mono ?_
    rintro e w' ⟨rfl, rfl⟩
    go_wp2_with fail
    refine (deaf_any _ _ _ _ _ _ (gfq.out n)).mono ?_
    rintro e w' ⟨rfl, rfl⟩
    go_wp2_with fail
    go_ret
    exact ⟨by simp, bb.out.os, bb.out.tape, bb.out.output, bb.out.size, bb.out.block⟩
end Go.Proofs.YtkocnldkimjonaaDoor
