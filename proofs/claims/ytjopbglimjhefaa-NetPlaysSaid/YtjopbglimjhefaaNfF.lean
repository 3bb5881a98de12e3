/- The document's net: Lose, Late: walked. -/
import Derived.Test.YtjopbglimjhefaaNfE
import Derived.StillTailTactics
namespace Go.Proofs.Ytjopbglimjhefaa
set_option linter.unusedSimpArgs false
open Go.RowKit Go.Maps Go.WideMaps

/-- 'append(v, v2...)' of packets -/
theorem wpList_append_pks {w : World} {ops : Array Oper} {rest : List Oper} {o : Oper} {a : Act} {Q : Exit → Act → World → Prop} (hgd : o.guard = none) (s x : Operand)
    (ho : o.op = .call { callee := .builtin .append, args := #[s, x], argTypes := #[24, 24] })
    (v v2 : Value) (l news : List Pk) (hs : a.eval s = v) (hx : a.eval x = v2) (hown : OwnP w v l) (h2 : Rd w v2 news.length (rowCells news)) (hlen : l.length + news.length ≤ 100000)
    (h : ∀ v' w', OwnP w' v' (l ++ news) → w.grownBy w' v.ownBlock → (∀ g, v'.ownBlock = some g → v.ownBlock = some g ∨ w.heap.size ≤ g) → wpList Try.prog ops Q rest (a.put o.dst v') w') : wpList Try.prog ops Q (o :: rest) a w := by
  refine wpList_append_rd hgd s x 24 ho 0 30 _ 5 48 Try.underlying24 pk_info rfl (by decide) v v2 l.length news.length (rowCells l) (rowCells news) hs hx hown h2 (rowCells_len _) (rowCells_one _) (by unfold maxLen; omega) (by omega) (Nat.zero_le _) ?_
  intro v' w' ho' hg' hat
  refine h v' w' ?_ hg' hat
  unfold OwnP
  rw [List.length_append, rowCells_app]
  exact ho'
theorem RSame.undrew {W W' : World} {b : Nat} (h : RSame W.drew b W') : RSame W b W' := ⟨h.os, h.tape, h.output, h.size, h.block⟩
def RefRet (W : World) (b : Nat) (v : Value) (R : Int → Rs → Prop) (e : Ending) (w' : World) : Prop := ∃ (x : Int) (r' : Rs) (v' : Value), e = .returned (.int .i64 x) ∧ Hid (R x r') ∧ Hid (RefAt w' b v' r') ∧ Hid (RSame W b w' ∧ Later W v v')
theorem no_id {l : List Pk} {id : Int} (h : AtR l id (-1)) : ∀ q ∈ l, q.id ≠ id := by
  rcases h with ⟨_, h⟩ | ⟨i, h, _⟩
  · exact h
  · omega
theorem at_cases {l : List Pk} {id j : Int} (h : AtR l id j) : (j = -1 ∧ ∀ q ∈ l, q.id ≠ id) ∨ ∃ i : Nat, j = i ∧ i < l.length ∧ (pat l i).id = id := h
set_option maxRecDepth 100000 in
set_option maxHeartbeats 4000000 in
theorem refLose_any (b : Nat) (v : Value) (r : Rs) (id : Int) (hl : r.l.length ≤ 600) (W : World) (h : RefAt W b v r) :
    Calls Try.prog 29 #[.pointer (some ⟨b, 0, none⟩), .int .i64 id] W (RefRet W b v (LoseR r id)) := by
  have hat := Lib.hid (refAt_any b v r id (by omega) W h)
  replace h := Lib.hid h
  go_enter Try.func29, Try.ntmps29
  go_wp2_with fail
  refine hat.out.mono ?_
  rintro e w1 ⟨j, rfl, hj, rfl⟩
  clear hat
  rcases at_cases hj.out with ⟨rfl, hno⟩ | ⟨i, rfl, hi, hid⟩
  · replace hno := Lib.hid hno
    clear hj
    go_wp2_with fail
    go_ret
    exact ⟨6, r, v, rfl, Lib.hid (.inl ⟨hno.out, rfl, rfl⟩), h, Lib.hid ⟨RSame.of_below (Below.refl _ _) b, Later.refl _ _⟩⟩
  · have hc := Lib.hid (refOut_any b v r i hi (by omega) W h.out)
    have hge : (0 : Int) ≤ (i : Int) := by omega
    replace hid := Lib.hid hid
    clear hj
    go_wp2_with fail
    refine hc.out.mono ?_
    rintro e w2 ⟨rfl, v', hR, hS⟩
    clear hc
    go_wp2_with fail
    go_ret
    exact ⟨0, _, v', rfl, Lib.hid (.inr ⟨i, hi, hid.out, rfl, rfl⟩), hR, hS⟩
set_option maxRecDepth 100000 in
set_option maxHeartbeats 4000000 in
theorem refLate_any (b : Nat) (v : Value) (r : Rs) (id d : Int) (hnow : r.now < 1000000) (hl : r.l.length ≤ 600) (W : World) (h : RefAt W b v r) :
    Calls Try.prog 31 #[.pointer (some ⟨b, 0, none⟩), .int .i64 id, .int .i64 d] W (RefRet W b v (LateR r id d)) := by
  have hat := Lib.hid (refAt_any b v r id (by omega) W h)
  replace h := Lib.hid h
  go_enter Try.func31, Try.ntmps31
  go_wp2_with fail
  refine hat.out.mono ?_
  rintro e w1 ⟨j, rfl, hj, rfl⟩
  clear hat
  rcases at_cases hj.out with ⟨rfl, hno⟩ | ⟨i, rfl, hi, hid⟩
  · replace hno := Lib.hid hno
    clear hj
    go_wp2_with fail
    go_ret
    exact ⟨6, r, v, rfl, Lib.hid (.inl ⟨hno.out, rfl, rfl⟩), h, Lib.hid ⟨RSame.of_below (Below.refl _ _) b, Later.refl _ _⟩⟩
  · have hge : (0 : Int) ≤ (i : Int) := by omega
    have hm := Lib.hid (show ∃ p ∈ r.l, p.id = id from ⟨pat r.l i, by rw [pat_lt hi]; exact List.getElem_mem hi, hid⟩)
    replace hid := Lib.hid hid
    clear hj
    by_cases hd0 : d < 0
    · have hR := Lib.hid (show LateR r id d 1 r from .inr (.inl ⟨hm.out, by omega, rfl, rfl⟩))
      go_wp2_with fail
      go_ret
      exact ⟨1, r, v, rfl, hR, h, Lib.hid ⟨RSame.of_below (Below.refl _ _) b, Later.refl _ _⟩⟩
    · by_cases hd1 : 100 < d
      · have hR := Lib.hid (show LateR r id d 1 r from .inr (.inl ⟨hm.out, by omega, rfl, rfl⟩))
        go_wp2_with fail
        go_ret
        exact ⟨1, r, v, rfl, hR, h, Lib.hid ⟨RSame.of_below (Below.refl _ _) b, Later.refl _ _⟩⟩
      · have hR := Lib.hid (show LateR r id d 0 ⟨r.l.set i ((pat r.l i).at_ (r.now + d)), r.now, r.last, r.cs⟩ from .inr (.inr ⟨⟨by omega, by omega⟩, i, hi, hid.out, rfl, rfl⟩))
        have c0 := h.out.c0
        have hbl := h.out.lt
        have hbs : b ≠ W.heap.size := by omega
        have hE := Lib.hid (own_empty W)
        have hrd := Lib.hid (h.out.own.below' ((Below.refl _ _).alloc (Nat.le_refl _) (.cells #[] 30))).rd
        obtain ⟨ao, cap, hv⟩ := h.out.own.len
        subst hv
        clear hid hm
        go_wp2_with (at_builtin; refine wpList_append_pks rfl _ _ rfl (.slice (some ⟨W.heap.size, 0, none⟩) 0 0) (.slice ao r.l.length cap) [] r.l rfl rfl hE.out hrd.out (by simp; omega) ?_)
        intro v1 w2 hown1 hgr1 hat1
        have hB : Below W.heap.size W w2 := grown_below ((Below.refl _ _).alloc (Nat.le_refl _) (.cells #[] 30)) hgr1 (fun k hk => by simp [Value.ownBlock] at hk; omega)
        have hf1 : ∀ g, v1.ownBlock = some g → W.heap.size ≤ g := fun k hk => by
          rcases hat1 k hk with q | q
          · simp [Value.ownBlock] at q; omega
          · omega
        obtain ⟨g, cap1, rest, rfl, -, hrow, hback⟩ := OwnP.row hown1 (by omega)
        have hgb : b ≠ g := fun e => by have := hf1 g rfl; omega
        have h2 := h.out.below hB
        have c0 := h2.c0
        have c1 := h2.c1
        have f0 := h2.free 0
        obtain ⟨-, -, -, -, a4⟩ := hrow.cells i hi
        have fr := hrow.free (i * 5 + 4)
        have hil : (i : Int) < (r.l.length : Int) := by omega
        have hr3 := hrow.due i hi ((r.now : Int) + d)
        have hS3 : Below W.heap.size W (w2.setCell ⟨g, i * 5 + 4, none⟩ (.int .i64 ((r.now : Int) + d))) := hB.setCell (p := ⟨g, i * 5 + 4, none⟩) (hf1 g rfl) _
        have hown3 := hback _ _ r.l.length (Nat.le_refl _) (by rw [List.length_set]) hr3
        rw [List.take_of_length_le (by rw [List.length_set]; exact Nat.le_refl _)] at hown3
        have h3 := (h.out.below hS3).setL hown3 (fun e => hgb (by simpa [Value.ownBlock] using e.symm))
        have hend := Lib.hid h3.1
        have hsm := Lib.hid (And.intro ((RSame.of_below hS3 b).trans h3.2) (show Later W (.slice ao r.l.length cap) (.slice (some ⟨g, 0, none⟩) r.l.length cap1) from fun k hk => .inr (hf1 k hk)))
        clear h3 hown3 hr3 hS3 h2 hback hrow hown1 hgr1 hat1 hB hE hrd
        replace hf1 := Lib.hid hf1
        go_wp2_with fail
        go_ret
        exact ⟨0, _, _, rfl, hR, hend, hsm⟩
def RefRet2 (W : World) (b : Nat) (v : Value) (R : Int × Int × Rs → Prop) (e : Ending) (w' : World) : Prop := ∃ (x : Int × Int × Rs) (v' : Value), e = .returned (.tuple #[.int .i64 x.1, .int .i64 x.2.1]) ∧ Hid (R x) ∧ Hid (RefAt w' b v' x.2.2) ∧ Hid (RSame W b w' ∧ Later W v v')
set_option maxRecDepth 100000 in
set_option maxHeartbeats 4000000 in
theorem refDouble_any (b : Nat) (v : Value) (r : Rs) (id d : Int) (hnow : r.now < 1000000) (hlast : r.last < 1000000) (hl : r.l.length ≤ 600) (W : World) (h : RefAt W b v r) :
    Calls Try.prog 30 #[.pointer (some ⟨b, 0, none⟩), .int .i64 id, .int .i64 d] W (RefRet2 W b v (DoubleR r id d)) := by
  have hat := Lib.hid (refAt_any b v r id (by omega) W h)
  replace h := Lib.hid h
  go_enter Try.func30, Try.ntmps30
  go_wp2_with fail
  refine hat.out.mono ?_
  rintro e w1 ⟨j, rfl, hj, rfl⟩
  clear hat
  rcases at_cases hj.out with ⟨rfl, hno⟩ | ⟨i, rfl, hi, hid⟩
  · replace hno := Lib.hid hno
    clear hj
    go_wp2_with fail
    go_ret2
    exact ⟨(0, 6, r), v, rfl, Lib.hid (.inl ⟨hno.out, rfl⟩), h, Lib.hid ⟨RSame.of_below (Below.refl _ _) b, Later.refl _ _⟩⟩
  · have hge : (0 : Int) ≤ (i : Int) := by omega
    replace hid := Lib.hid hid
    have h2 := h.out.below ((Below.refl _ W).drew)
    have hdr : ∀ e w2, SendRR W.drew b v r (pat r.l i).src (pat r.l i).dst (pat r.l i).data d e w2 → SendRR W b v r (pat r.l i).src (pat r.l i).dst (pat r.l i).data d e w2 := fun e w2 hh => by
      obtain ⟨h1, v', h2, h3⟩ := hh
      exact ⟨h1, v', h2, Lib.hid ⟨RSame.undrew h3.out.1, h3.out.2⟩⟩
    have hc := refSend_any b v r (pat r.l i).src (pat r.l i).dst (pat r.l i).data d hnow hlast hl W.drew h2
    replace hc := hc.mono hdr
    clear hdr
    obtain ⟨g, cap, hv, hg, -, a1, a2, a3, -⟩ := h.out.own.cells hi
    have c0 := h.out.c0
    have hil : (i : Int) < (r.l.length : Int) := by omega
    have hR : DoubleR r id d (sendR r (pat r.l i).src (pat r.l i).dst (pat r.l i).data d) := .inr ⟨i, hi, hid.out, rfl⟩
    subst hv
    generalize (pat r.l i).src = x at hc a1 hR
    generalize (pat r.l i).dst = y at hc a2 hR
    generalize (pat r.l i).data = t at hc a3 hR
    replace hR := Lib.hid hR
    replace hc := Lib.hid hc
    clear hj h h2 hid
    go_wp2_with fail
    refine wp_region_hd2 (fun w' => w'.cell? ⟨b, 0, none⟩ = some (.slice (some ⟨g, 0, none⟩) r.l.length cap) ∧ w'.cell? ⟨g, i * 5 + 1, none⟩ = some (.int .i64 x) ∧ w'.cell? ⟨g, i * 5 + 2, none⟩ = some (.int .i64 y) ∧ w'.cell? ⟨g, i * 5 + 3, none⟩ = some (.string t)) (fun _ => True) 26 29 2 (by kernel_rfl) (by decide) rfl ⟨by kernel_rfl, by kernel_rfl, by kernel_rfl, by decide⟩ ⟨c0, a1, a2, a3⟩ (fun hok hS0 => ?_)
    refine Hd.take (i := 0) (v := ?tv34) hok rfl (by kernel_rfl) (fun _ _ _ h => h) (Or.inl ⟨by rfl, ?ty34⟩) (by assumption) ?tr34
    case ty34 => (intro w hSw; (try dsimp only at hSw); go_simp; (try with_reducible rfl))
    try simp only [List.getElem_toArray, List.getElem_cons_succ, List.getElem_cons_zero, Act.put, List.setIfInBounds_toArray, List.set_cons_zero, List.set_cons_succ]
    refine Hd.take (i := 1) (v := ?tv35) hok rfl (by kernel_rfl) (fun _ _ _ h => h) (Or.inl ⟨by rfl, ?ty35⟩) (by assumption) ?tr35
    case ty35 => (intro w hSw; (try dsimp only at hSw); go_simp; (try with_reducible rfl))
    try simp only [List.getElem_toArray, List.getElem_cons_succ, List.getElem_cons_zero, Act.put, List.setIfInBounds_toArray, List.set_cons_zero, List.set_cons_succ]
    refine Hd.take (i := 2) (v := ?tv36) hok rfl (by kernel_rfl) (fun _ _ _ h => h) (Or.inl ⟨by rfl, ?ty36⟩) (by assumption) ?tr36
    case ty36 => (intro w hSw; (try dsimp only at hSw); go_simp; (try with_reducible rfl))
    try simp only [List.getElem_toArray, List.getElem_cons_succ, List.getElem_cons_zero, Act.put, List.setIfInBounds_toArray, List.set_cons_zero, List.set_cons_succ]
    refine Hd.take (i := 3) (v := ?tv37) hok rfl (by kernel_rfl) (fun _ _ _ h => h) (Or.inl ⟨by rfl, ?ty37⟩) (by assumption) ?tr37
    case ty37 => (intro w hSw; (try dsimp only at hSw); go_simp; (try with_reducible rfl))
    try simp only [List.getElem_toArray, List.getElem_cons_succ, List.getElem_cons_zero, Act.put, List.setIfInBounds_toArray, List.set_cons_zero, List.set_cons_succ]
    refine Hd.take (i := 4) (v := ?tv38) hok rfl (by kernel_rfl) (fun _ _ _ h => h) (Or.inl ⟨by rfl, ?ty38⟩) (by assumption) ?tr38
    case ty38 => (intro w hSw; (try dsimp only at hSw); go_simp; (try with_reducible rfl))
    try simp only [List.getElem_toArray, List.getElem_cons_succ, List.getElem_cons_zero, Act.put, List.setIfInBounds_toArray, List.set_cons_zero, List.set_cons_succ]
    refine Hd.take (i := 5) (v := ?tv39) hok rfl (by kernel_rfl) (fun _ _ _ h => h) (Or.inl ⟨by rfl, ?ty39⟩) (by assumption) ?tr39
    case ty39 => (intro w hSw; (try dsimp only at hSw); go_simp; (try with_reducible rfl))
    try simp only [List.getElem_toArray, List.getElem_cons_succ, List.getElem_cons_zero, Act.put, List.setIfInBounds_toArray, List.set_cons_zero, List.set_cons_succ]
    refine Hd.take (i := 6) (v := ?tv40) hok rfl (by kernel_rfl) (fun _ _ _ h => h) (Or.inl ⟨by rfl, ?ty40⟩) (by assumption) ?tr40
    case ty40 => (intro w hSw; (try dsimp only at hSw); go_simp; (try with_reducible rfl))
    try simp only [List.getElem_toArray, List.getElem_cons_succ, List.getElem_cons_zero, Act.put, List.setIfInBounds_toArray, List.set_cons_zero, List.set_cons_succ]
    refine Hd.take (i := 7) (v := ?tv41) hok rfl (by kernel_rfl) (fun _ _ _ h => h) (Or.inl ⟨by rfl, ?ty41⟩) (by assumption) ?tr41
    case ty41 => (intro w hSw; (try dsimp only at hSw); go_simp; (try with_reducible rfl))
    try simp only [List.getElem_toArray, List.getElem_cons_succ, List.getElem_cons_zero, Act.put, List.setIfInBounds_toArray, List.set_cons_zero, List.set_cons_succ]
    refine Hd.take (i := 8) (v := ?tv42) hok rfl (by kernel_rfl) (fun _ _ _ h => h) (Or.inl ⟨by rfl, ?ty42⟩) (by assumption) ?tr42
    case ty42 => (intro w hSw; (try dsimp only at hSw); go_simp; (try with_reducible rfl))
    try simp only [List.getElem_toArray, List.getElem_cons_succ, List.getElem_cons_zero, Act.put, List.setIfInBounds_toArray, List.set_cons_zero, List.set_cons_succ]
    refine Hd.take (i := 9) (v := ?tv43) hok rfl (by kernel_rfl) (fun _ _ _ h => h) (Or.inl ⟨by rfl, ?ty43⟩) (by assumption) ?tr43
    case ty43 => (intro w hSw; (try dsimp only at hSw); go_simp; (try with_reducible rfl))
    try simp only [List.getElem_toArray, List.getElem_cons_succ, List.getElem_cons_zero, Act.put, List.setIfInBounds_toArray, List.set_cons_zero, List.set_cons_succ]
    refine Hd.take (i := 10) (v := ?tv44) hok rfl (by kernel_rfl) (fun _ _ _ h => h) (Or.inl ⟨by rfl, ?ty44⟩) (by assumption) ?tr44
    case ty44 => (intro w hSw; (try dsimp only at hSw); go_simp; (try with_reducible rfl))
    try simp only [List.getElem_toArray, List.getElem_cons_succ, List.getElem_cons_zero, Act.put, List.setIfInBounds_toArray, List.set_cons_zero, List.set_cons_succ]
    refine Hd.take (i := 11) (v := ?tv45) hok rfl (by kernel_rfl) (fun _ _ _ h => h) (Or.inl ⟨by rfl, ?ty45⟩) (by assumption) ?tr45
    case ty45 => (intro w hSw; (try dsimp only at hSw); go_simp; (try with_reducible rfl))
    try simp only [List.getElem_toArray, List.getElem_cons_succ, List.getElem_cons_zero, Act.put, List.setIfInBounds_toArray, List.set_cons_zero, List.set_cons_succ]
    refine Hd.take (i := 12) (v := ?tv46) hok rfl (by kernel_rfl) (fun _ _ _ h => h) (Or.inl ⟨by rfl, ?ty46⟩) (by assumption) ?tr46
    case ty46 => (intro w hSw; (try dsimp only at hSw); go_simp; (try with_reducible rfl))
    try simp only [List.getElem_toArray, List.getElem_cons_succ, List.getElem_cons_zero, Act.put, List.setIfInBounds_toArray, List.set_cons_zero, List.set_cons_succ]
    refine Hd.take (i := 13) (v := ?tv47) hok rfl (by kernel_rfl) (fun _ _ _ h => h) (Or.inl ⟨by rfl, ?ty47⟩) (by assumption) ?tr47
    case ty47 => (intro w hSw; (try dsimp only at hSw); go_simp; (try with_reducible rfl))
    try simp only [List.getElem_toArray, List.getElem_cons_succ, List.getElem_cons_zero, Act.put, List.setIfInBounds_toArray, List.set_cons_zero, List.set_cons_succ]
    refine Hd.take (i := 14) (v := ?tv48) hok rfl (by kernel_rfl) (fun _ _ _ h => h) (Or.inl ⟨by rfl, ?ty48⟩) (by assumption) ?tr48
    case ty48 => (intro w hSw; (try dsimp only at hSw); go_simp; (try with_reducible rfl))
    try simp only [List.getElem_toArray, List.getElem_cons_succ, List.getElem_cons_zero, Act.put, List.setIfInBounds_toArray, List.set_cons_zero, List.set_cons_succ]
    refine Hd.take (i := 15) (v := ?tv49) hok rfl (by kernel_rfl) (fun _ _ _ h => h) (Or.inl ⟨by rfl, ?ty49⟩) (by assumption) ?tr49
    case ty49 => (intro w hSw; (try dsimp only at hSw); go_simp; (try with_reducible rfl))
    try simp only [List.getElem_toArray, List.getElem_cons_succ, List.getElem_cons_zero, Act.put, List.setIfInBounds_toArray, List.set_cons_zero, List.set_cons_succ]
    refine Hd.take (i := 16) (v := ?tv50) hok rfl (by kernel_rfl) (fun _ _ _ h => h) (Or.inl ⟨by rfl, ?ty50⟩) (by assumption) ?tr50
    case ty50 => (intro w hSw; (try dsimp only at hSw); go_simp; (try with_reducible rfl))
    try simp only [List.getElem_toArray, List.getElem_cons_succ, List.getElem_cons_zero, Act.put, List.setIfInBounds_toArray, List.set_cons_zero, List.set_cons_succ]
    refine Hd.take (i := 17) (v := ?tv51) hok rfl (by kernel_rfl) (fun _ _ _ h => h) (Or.inl ⟨by rfl, ?ty51⟩) (by assumption) ?tr51
    case ty51 => (intro w hSw; (try dsimp only at hSw); go_simp; (try with_reducible rfl))
    try simp only [List.getElem_toArray, List.getElem_cons_succ, List.getElem_cons_zero, Act.put, List.setIfInBounds_toArray, List.set_cons_zero, List.set_cons_succ]
    refine Hd.take (i := 18) (v := ?tv52) hok rfl (by kernel_rfl) (fun _ _ _ h => h) (Or.inl ⟨by rfl, ?ty52⟩) (by assumption) ?tr52
    case ty52 => (intro w hSw; (try dsimp only at hSw); go_simp; (try with_reducible rfl))
    try simp only [List.getElem_toArray, List.getElem_cons_succ, List.getElem_cons_zero, Act.put, List.setIfInBounds_toArray, List.set_cons_zero, List.set_cons_succ]
    refine Hd.take (i := 19) (v := ?tv53) hok rfl (by kernel_rfl) (fun _ _ _ h => h) (Or.inl ⟨by rfl, ?ty53⟩) (by assumption) ?tr53
    case ty53 => (intro w hSw; (try dsimp only at hSw); go_simp; (try with_reducible rfl))
    try simp only [List.getElem_toArray, List.getElem_cons_succ, List.getElem_cons_zero, Act.put, List.setIfInBounds_toArray, List.set_cons_zero, List.set_cons_succ]
    refine Hd.take (i := 20) (v := ?tv54) hok rfl (by kernel_rfl) (fun _ _ _ h => h) (Or.inl ⟨by rfl, ?ty54⟩) (by assumption) ?tr54
    case ty54 => (intro w hSw; (try dsimp only at hSw); go_simp; (try with_reducible rfl))
    try simp only [List.getElem_toArray, List.getElem_cons_succ, List.getElem_cons_zero, Act.put, List.setIfInBounds_toArray, List.set_cons_zero, List.set_cons_succ]
    refine Hd.take (i := 21) (v := ?tv55) hok rfl (by kernel_rfl) (fun _ _ _ h => h) (Or.inl ⟨by rfl, ?ty55⟩) (by assumption) ?tr55
    case ty55 => (intro w hSw; (try dsimp only at hSw); go_simp; (try with_reducible rfl))
    try simp only [List.getElem_toArray, List.getElem_cons_succ, List.getElem_cons_zero, Act.put, List.setIfInBounds_toArray, List.set_cons_zero, List.set_cons_succ]
    refine Hd.take (i := 22) (v := ?tv56) hok rfl (by kernel_rfl) (fun _ _ _ h => h) (Or.inl ⟨by rfl, ?ty56⟩) (by assumption) ?tr56
    case ty56 => (intro w hSw; (try dsimp only at hSw); go_simp; (try with_reducible rfl))
    try simp only [List.getElem_toArray, List.getElem_cons_succ, List.getElem_cons_zero, Act.put, List.setIfInBounds_toArray, List.set_cons_zero, List.set_cons_succ]
    refine Hd.take (i := 23) (v := ?tv57) hok rfl (by kernel_rfl) (fun _ _ _ h => h) (Or.inl ⟨by rfl, ?ty57⟩) (by assumption) ?tr57
    case ty57 => (intro w hSw; (try dsimp only at hSw); go_simp; (try with_reducible rfl))
    try simp only [List.getElem_toArray, List.getElem_cons_succ, List.getElem_cons_zero, Act.put, List.setIfInBounds_toArray, List.set_cons_zero, List.set_cons_succ]
    refine Hd.take (i := 24) (v := ?tv58) hok rfl (by kernel_rfl) (fun _ _ _ h => h) (Or.inl ⟨by rfl, ?ty58⟩) (by assumption) ?tr58
    case ty58 => (intro w hSw; (try dsimp only at hSw); go_simp; (try with_reducible rfl))
    try simp only [List.getElem_toArray, List.getElem_cons_succ, List.getElem_cons_zero, Act.put, List.setIfInBounds_toArray, List.set_cons_zero, List.set_cons_succ]
    refine Hd.take (i := 25) (v := ?tv59) hok rfl (by kernel_rfl) (fun _ _ _ h => h) (Or.inl ⟨by rfl, ?ty59⟩) (by assumption) ?tr59
    case ty59 => (intro w hSw; (try dsimp only at hSw); go_simp; (try with_reducible rfl))
    try simp only [List.getElem_toArray, List.getElem_cons_succ, List.getElem_cons_zero, Act.put, List.setIfInBounds_toArray, List.set_cons_zero, List.set_cons_succ]
    refine Hd.stage (by kernel_rfl) ?_
    replace hok : HdOk _ 29 := ⟨hok.sel, by kernel_rfl, by kernel_rfl, by decide⟩
    refine Hd.one (i := 26) rfl (by kernel_rfl) (fun K hK => ?_)
    go_simp
    refine hc.out.mono ?_
    rintro e w2 ⟨rfl, v', h3, h4⟩
    dsimp only
    refine hK _ _ trivial ?_
    clear hK K
    try simp only [List.getElem_toArray, List.getElem_cons_succ, List.getElem_cons_zero, Act.put, List.setIfInBounds_toArray, List.set_cons_zero, List.set_cons_succ]
    have hT : True := trivial
    refine Hd.take (i := 27) (v := ?tv60) hok rfl (by kernel_rfl) (fun _ _ _ h => h) (Or.inl ⟨by rfl, ?ty60⟩) (by assumption) ?tr60
    case ty60 => (intro w hSw; (try dsimp only at hSw); go_simp; (try with_reducible rfl))
    try simp only [List.getElem_toArray, List.getElem_cons_succ, List.getElem_cons_zero, Act.put, List.setIfInBounds_toArray, List.set_cons_zero, List.set_cons_succ]
    refine Hd.take (i := 28) (v := ?tv61) hok rfl (by kernel_rfl) (fun _ _ _ h => h) (Or.inl ⟨by rfl, ?ty61⟩) (by assumption) ?tr61
    case ty61 => (intro w hSw; (try dsimp only at hSw); go_simp; (try with_reducible rfl))
    try simp only [List.getElem_toArray, List.getElem_cons_succ, List.getElem_cons_zero, Act.put, List.setIfInBounds_toArray, List.set_cons_zero, List.set_cons_succ]
    refine Hd.done (by kernel_rfl) ?_
    simp only [List.drop_succ_cons, List.drop_zero]
    clear hc hok hS0 hT
    go_wp2_with fail
    go_ret2
    exact ⟨_, _, rfl, hR, h3, h4⟩
end Go.Proofs.Ytjopbglimjhefaa
