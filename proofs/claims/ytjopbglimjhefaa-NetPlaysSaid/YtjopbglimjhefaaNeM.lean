/- at, missing, Lose: walked. -/
import Derived.Test.YtjopbglimjhefaaNeL
namespace Go.Proofs.Ytjopbglimjhefaa
open Go.RowKit Go.Maps Go.WideMaps

theorem find_any (p : Pk) (id : Int) (X : Nat) (W : World) (hc : W.cell? ⟨X, 0, none⟩ = some (.int .i64 id)) :
    Calls Try.prog 46 #[.agg #[.int .i64 p.id, .int .i64 p.src, .int .i64 p.dst, .string p.data, .int .i64 p.due], .pointer (some ⟨X, 0, none⟩)] W fun e w' => e = .returned (.bool (p.id == id)) ∧ Hid (Below W.heap.size W w') := by
  have hX : X < W.heap.size := World.block_lt_of_cell? W ⟨X, 0, none⟩ hc
  have hXs : X ≠ W.heap.size := by omega
  go_enter Try.func46, Try.ntmps46
  go_wp2_with fail
  go_ret
  exact ⟨rfl, Lib.hid ((Below.refl _ W).alloc (Nat.le_refl _) _)⟩
/-- where a packet lies, or -1 -/
def Found (l : List Pk) (id : Int) (r : Int) : Prop := (r = -1 ∧ ∀ q ∈ l, q.id ≠ id) ∨ ∃ i : Nat, r = i ∧ i < l.length ∧ (pat l i).id = id
theorem OwnP.below {w w' : World} {v : Value} {l : List Pk} (h : OwnP w v l) (hb : Below w.heap.size w w') : OwnP w' v l := h.block (fun g hg => hb.block g (h.lt hg))
set_option maxRecDepth 100000 in
set_option maxHeartbeats 4000000 in
theorem indexFunc_any (v : Value) (l : List Pk) (id : Int) (X : Nat) (hlen : l.length ≤ 1000000) (W : World) (ho : OwnP W v l) (hc : W.cell? ⟨X, 0, none⟩ = some (.int .i64 id)) :
    Calls Try.prog 45 #[v, .func (.func 46) #[] #[.pointer (some ⟨X, 0, none⟩)]] W fun e w' => ∃ r : Int, e = .returned (.int .i64 r) ∧ Hid (Found l id r) ∧ Hid (Below W.heap.size W w') := by
  have hX : X < W.heap.size := World.block_lt_of_cell? W ⟨X, 0, none⟩ hc
  have hf := Lib.hid (fun p W2 (h : Below W.heap.size W W2) => find_any p id X W2 ((h.cell (p := ⟨X, 0, none⟩) hX).trans hc))
  obtain ⟨ao, cap, rfl⟩ := ho.len
  replace ho := Lib.hid ho
  clear hc hX
  go_enter Try.func45, Try.ntmps45
  go_wp2_with fail
  go_loopw [8] (fun v8 wr => ∃ i : Nat, v8 = .int .i64 i ∧ i ≤ l.length ∧ Hid (∀ k, k < i → (pat l k).id ≠ id) ∧ Hid (Below W.heap.size W wr)) (fun v8 _ => l.length - (intOf v8).toNat)
  case atStart => exact ⟨0, rfl, Nat.zero_le _, Lib.hid (fun k hk => by omega), Lib.hid (Below.refl _ _)⟩
  case round =>
    obtain ⟨i, rfl, hi, hno, hb⟩ := hrel
    by_cases hlt : i < l.length
    · obtain ⟨g, capg, rest, hv, -, hrow, -⟩ := (ho.out.below hb.out).row (by omega)
      injection hv with hv1 hv2 hv3
      subst hv1 hv3
      obtain ⟨a0, a1, a2, a3, a4⟩ := hrow.cells i hlt
      have hcall := Lib.hid (hf.out (pat l i) wr hb.out)
      have hl1 : (i : Int) < (l.length : Int) := by omega
      clear hrow
      by_cases hid : (pat l i).id = id
      · have hfound : Hid (Found l id (i : Int)) := Lib.hid (.inr ⟨i, rfl, hlt, hid⟩)
        have hq : ((pat l i).id == id) = true := by simpa using hid
        rw [hq] at hcall
        clear hq hid hno
        generalize pat l i = p at a0 a1 a2 a3 a4 hcall
        go_wp2_with fail
        refine hcall.out.mono ?_
        rintro e w1 ⟨rfl, hb1⟩
        have hB := Lib.hid (hb.out.trans (hb1.out.mono hb.out.size))
        clear hcall hb1
        go_wp2_with fail
        go_ret
        exact ⟨_, rfl, hfound, hB⟩
      · have hno2 := Lib.hid (show ∀ k, k < i + 1 → (pat l k).id ≠ id from fun k hk => by
          by_cases e : k = i
          · rw [e]; exact hid
          · exact hno.out k (by omega))
        have hq : ((pat l i).id == id) = false := by simpa using hid
        rw [hq] at hcall
        clear hq hid hno
        generalize pat l i = p at a0 a1 a2 a3 a4 hcall
        go_wp2_with fail
        refine hcall.out.mono ?_
        rintro e w1 ⟨rfl, hb1⟩
        have hB := Lib.hid (hb.out.trans (hb1.out.mono hb.out.size))
        clear hcall hb1
        go_wp2_with fail
        go_roundw
        case rel => exact ⟨i + 1, by go_num, by omega, hno2, hB⟩
        case measure => simp [intOf] <;> omega
    · have hend : Hid (Found l id (-1)) := Lib.hid (.inl ⟨rfl, fun q hq => by
        obtain ⟨k, hk, rfl⟩ := mem_pat hq
        exact hno.out k (by omega)⟩)
      have hl1 : (l.length : Int) ≤ (i : Int) := by omega
      go_wp2_with fail
      go_ret
      exact ⟨_, rfl, hend, hb⟩
set_option maxRecDepth 100000 in
set_option maxHeartbeats 4000000 in
theorem at_any (b m : Nat) (v : Value) (l : List Pk) (now last N : Nat) (C : Int → Int → Bool) (id : Int) (hlen : l.length ≤ 1000000) (W : World) (h : NetAt W b m v l now last N C) :
    Calls Try.prog 34 #[.pointer (some ⟨b, 0, none⟩), .int .i64 id] W fun e w' => ∃ r : Int, e = .returned (.int .i64 r) ∧ Hid (Found l id r) ∧ Hid (Below W.heap.size W w') := by
  have hb1 := h.fl.lt
  have hbs : b ≠ W.heap.size := by omega
  have c0 := h.fl.1
  have hba : Below W.heap.size W (W.alloc (.cells #[.int .i64 id] 3)) := (Below.refl _ W).alloc (Nat.le_refl _) _
  have hcall := Lib.hid (indexFunc_any v l id W.heap.size hlen (W.alloc (.cells #[.int .i64 id] 3)) (h.fl.2.2.1.below hba) (by simp))
  replace hba := Lib.hid hba
  clear h
  go_enter Try.func34, Try.ntmps34
  go_wp2_with fail
  refine hcall.out.mono ?_
  rintro e w1 ⟨r, rfl, hr, hb2⟩
  have hB := Lib.hid (hba.out.trans (hb2.out.mono (by simp)))
  clear hcall hb2
  go_wp2_with fail
  go_ret
  exact ⟨r, rfl, hr, hB⟩
theorem missing_any (b : Nat) (W : World) : Calls Try.prog 35 #[.pointer (some ⟨b, 0, none⟩)] W fun e w' => e = .returned (.int .i64 6) ∧ w' = W := by
  go_enter Try.func35, Try.ntmps35
  go_wp2_with fail
  go_ret
  exact ⟨rfl, rfl⟩
/-- what Lose does -/
def LoseRet (W : World) (b m : Nat) (v : Value) (l : List Pk) (now last N : Nat) (C : Int → Int → Bool) (id : Int) (e : Ending) (w' : World) : Prop :=
  ((∀ q ∈ l, q.id ≠ id) ∧ e = .returned (.int .i64 6) ∧ Hid (Below W.heap.size W w')) ∨
  (∃ (p : Pk) (v' : Value) (l' : List Pk), p.id = id ∧ e = .returned (.int .i64 0) ∧ Hid (NetAt w' b m v' l' now last N C ∧ Heap l' l'.length) ∧ Hid ((p :: l').Perm l) ∧ Hid (NSame W b m v w' ∧ Later W v v'))
set_option maxRecDepth 100000 in
set_option maxHeartbeats 4000000 in
theorem lose_any (b m : Nat) (v : Value) (l : List Pk) (now last N : Nat) (C : Int → Int → Bool) (id : Int) (hlen : l.length ≤ 512) (W : World) (h : NetAt W b m v l now last N C) (hh : Heap l l.length) :
    Calls Try.prog 20 #[.pointer (some ⟨b, 0, none⟩), .int .i64 id] W (LoseRet W b m v l now last N C id) := by
  have hat := Lib.hid (at_any b m v l now last N C id (by omega) W h)
  have hmiss := Lib.hid (fun W => missing_any b W)
  replace h := Lib.hid h
  go_enter Try.func20, Try.ntmps20
  go_wp2_with fail
  refine hat.out.mono ?_
  rintro e w1 ⟨r, rfl, hr, hb⟩
  clear hat
  rcases hr.out with ⟨rfl, hno⟩ | ⟨i, rfl, hi, hid⟩
  · replace hno := Lib.hid hno
    clear hr
    go_wp2_with fail
    refine (hmiss.out _).mono ?_
    rintro e w2 ⟨rfl, rfl⟩
    go_wp2_with fail
    go_ret
    exact .inl ⟨hno.out, rfl, hb⟩
  · obtain ⟨n, hn⟩ : ∃ n, l.length = n + 1 := ⟨l.length - 1, by omega⟩
    have h1 := Lib.hid (h.out.below hb.out)
    have hcall := Lib.hid (heapRemove_any b n i v l hn (by omega) (by omega) w1 h1.out.fl (by rw [hn] at hh; exact hh))
    have hge : (0 : Int) ≤ (i : Int) := by omega
    clear hr
    go_wp2_with fail
    refine hcall.out.mono ?_
    rintro e w2 ⟨rfl, v', l', h3, h4, h5⟩
    have hn2 := Lib.hid (And.intro (h1.out.flown h3.out h5.out.1 h5.out.2) h4.out.2)
    have hP := Lib.hid h4.out.1
    have hb2 := hb.out
    have hS := Lib.hid (And.intro ((NSame.of_below hb2 b m v).trans (Later.refl _ _) (NSame.of_f h5.out.1)) ((Later.refl W v).trans h5.out.2 hb2.size))
    clear hcall h3 h4 h5 h1
    go_wp2_with fail
    go_ret
    exact .inr ⟨pat l i, v', l', hid, rfl, hn2, hP, hS⟩
end Go.Proofs.Ytjopbglimjhefaa
