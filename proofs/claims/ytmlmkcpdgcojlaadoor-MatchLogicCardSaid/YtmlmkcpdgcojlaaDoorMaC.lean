/- Whole: walked; what a key without kids says: leaf, walked. -/
import Derived.Test.YtmlmkcpdgcojlaaDoorMaB
import Derived.Laws.EntriesVeiled
import Derived.Deep.QuietTactic
import Derived.BigQuiet
namespace Go.Proofs.YtmlmkcpdgcojlaaDoor
open Go.RowKit

def wholeL (ks : List KeyD) : Bool := decide (ks.length ≤ 32) && (oneI ks (ks.length + 1) 0 1 == some ks.length)
set_option maxRecDepth 100000 in
set_option maxHeartbeats 2000000 in
theorem whole_any (ks : List KeyD) (v : Value) (hwf : ∀ k ∈ ks, k.kids ≤ 9223372036854775807) (w : World) (hk : KeysIn w w.heap.size v ks) :
    Calls Tryd.prog 8 #[v] w fun e w' => e = .returned (.bool (wholeL ks)) ∧ Hid (Below w.heap.size w w') := by
  obtain ⟨ao, cap, rfl, hk2⟩ := hk
  by_cases hl : ks.length ≤ 32
  · have hW : Hid (wholeL ks = (oneI ks (ks.length + 1) 0 1 == some ks.length)) := Lib.hid (by rw [wholeL, decide_eq_true hl]; rfl)
    generalize hv : Value.slice ao ks.length cap = v at *
    have hM : ∀ W, W = (((w.alloc (.cells #[v] 22)).alloc (.cells #[.int .i64 0] 3)).alloc (.cells #[.func (.func 13) #[] #[.pointer (some ⟨w.heap.size + 1, 0, none⟩), .pointer (some ⟨w.heap.size, 0, none⟩), .pointer (some ⟨w.heap.size + 2, 0, none⟩)]] 43)) → WholeMem W w.heap.size (w.heap.size + 1) w.heap.size (w.heap.size + 2) ks v 0 := by
      rintro W rfl
      have hb : Below w.heap.size w (((w.alloc (.cells #[v] 22)).alloc (.cells #[.int .i64 0] 3)).alloc (.cells #[.func (.func 13) #[] #[.pointer (some ⟨w.heap.size + 1, 0, none⟩), .pointer (some ⟨w.heap.size, 0, none⟩), .pointer (some ⟨w.heap.size + 2, 0, none⟩)]] 43)) := (((Below.refl _ w).alloc (Nat.le_refl _) _).alloc (by simp) _).alloc (by simp; omega) _
      have h1 := Boxed.new w 22 v
      have h2 := Boxed.new (w.alloc (.cells #[v] 22)) 3 (.int .i64 0)
      have h3 := Boxed.new ((w.alloc (.cells #[v] 22)).alloc (.cells #[.int .i64 0] 3)) 43 (.func (.func 13) #[] #[.pointer (some ⟨w.heap.size + 1, 0, none⟩), .pointer (some ⟨w.heap.size, 0, none⟩), .pointer (some ⟨w.heap.size + 2, 0, none⟩)])
      rw [World.size_alloc] at h2 h3
      rw [World.size_alloc] at h3
      have hki : KeysIn w w.heap.size v ks := ⟨ao, cap, hv.symm, hk2⟩
      exact ⟨(h2.alloc _), (h1.alloc _).alloc _, h3, hki.later hb, by omega, by simp; omega, by omega, by omega⟩
    have hb0 : Below w.heap.size w (((w.alloc (.cells #[v] 22)).alloc (.cells #[.int .i64 0] 3)).alloc (.cells #[.func (.func 13) #[] #[.pointer (some ⟨w.heap.size + 1, 0, none⟩), .pointer (some ⟨w.heap.size, 0, none⟩), .pointer (some ⟨w.heap.size + 2, 0, none⟩)]] 43)) := (((Below.refl _ w).alloc (Nat.le_refl _) _).alloc (by simp) _).alloc (by simp; omega) _
    have hone := Lib.hid (fun W hW => one_any ks hl hwf w.heap.size (w.heap.size + 1) w.heap.size (w.heap.size + 2) v (ks.length + 1) 0 1 W (by omega) (Nat.zero_le _) (by decide) (hM W hW))
    subst hv
    clear hM hk2
    go_enter Tryd.func8, Tryd.ntmps8
    go_wp2_with fail
    refine (hone.out _ rfl).mono ?_
    rintro e W1 ⟨ok, i', rfl, hM1, hi', hK1, hr⟩
    have hB := Lib.hid ((hK1.out.out (B := w.heap.size) (by omega) (by simp; omega)))
    have hB1 := Lib.hid (hb0.trans hB.out)
    clear hone hb0 hB hK1
    cases ok
    · have hf : Hid (wholeL ks = false) := Lib.hid (by rw [hW.out, hr.out]; rfl)
      clear hW hr
      go_wp2_with fail
      go_ret
      exact ⟨by rw [hf.out]; rfl, hB1⟩
    · have hf : Hid (wholeL ks = ((i' : Int) == (ks.length : Int))) := Lib.hid (by
        rw [hW.out, hr.out]
        by_cases h : i' = ks.length
        · subst h; simp
        · have h2 : ((i' : Int) == (ks.length : Int)) = false := beq_eq_false_iff_ne.2 (by omega)
          rw [h2, if_pos rfl, beq_eq_false_iff_ne]
          intro e; exact h (Option.some.inj e))
      have cA := hM1.out.ba.cell
      have cL := hM1.out.bl.cell
      clear hW hr
      go_wp2_with fail
      go_ret
      exact ⟨by rw [hf.out]; rfl, hB1⟩
  · have hW : Hid (wholeL ks = false) := Lib.hid (by rw [wholeL, decide_eq_false hl]; rfl)
    go_enter Tryd.func8, Tryd.ntmps8
    go_wp2_with fail
    go_ret
    exact ⟨by rw [hW.out]; rfl, Lib.hid ((Below.refl _ w).alloc (Nat.le_refl _) _)⟩
theorem cell_first (w : World) (C : Array Value) (t : TypeId) (o2 o3 : Obj) (j : Nat) : (((w.alloc (.cells C t)).alloc o2).alloc o3).cell? ⟨w.heap.size, j, none⟩ = C[j]? := by
  unfold World.cell?
  rw [Below.heap_alloc _ _ _ (by simp; omega), Below.heap_alloc _ _ _ (by simp), heap_alloc_new]
  simp
theorem size_of_list {u : ByteArray} {l : List UInt8} (h : u.data.toList = l) : u.size = l.length := by rw [← h]; rfl
theorem eq_lit {u : ByteArray} {l : List UInt8} (h : u.data.toList = l) : (u.toList == l) = true := by rw [ByteArray.toList_eq, h]; simp
theorem heap_pos {W : World} {m : Int} (h : W.cell? ⟨0, 0, none⟩ = some (.int .i64 m)) : 1 ≤ W.heap.size := World.block_lt_of_cell? W ⟨0, 0, none⟩ h
/-- a letter, as far as keys look at it -/
structure LetterD where
  uid : Nat
  fa : Option Addr
  fn : Nat
  fc : Nat
  md : Nat
  hash : ByteArray
  size : Nat
  flag : ByteArray → Bool
def letterV (x : LetterD) : Value := .agg #[.int .u64 x.uid, .slice x.fa x.fn x.fc, .int .u64 x.md, .string x.hash, .int .u64 x.size]
structure PlaceD where
  seq : Nat
  mostSeq : Nat
  mostUid : Nat
def placeV (p : PlaceD) : Value := .agg #[.int .u64 p.seq, .int .u64 p.mostSeq, .int .u64 p.mostUid]
def leafL (k : KeyD) (x : LetterD) (p : PlaceD) (m : List UInt8) : Bool :=
  if k.kind = 5 then k.has p.mostSeq p.seq
  else if k.kind = 6 then k.has p.mostUid x.uid
  else if k.kind = 7 then x.flag k.field == decide (k.n = 1)
  else if k.kind = 8 then decide (k.n < x.size)
  else if k.kind = 9 then decide (x.size < k.n)
  else if k.kind = 10 then decide (k.n ≤ x.md)
  else if k.kind = 11 then holdsL m k.text.data.toList
  else if k.kind = 12 then holdsL (splitM m).2 k.text.data.toList
  else if k.kind = 13 then (match fieldVal m k.field.data.toList with | none => false | some v => holdsL v k.text.data.toList)
  else true
/-- what is asked of a key's set: that Has tells of it, wherever nothing of W has turned -/
def HasOk (W : World) (k : KeyD) : Prop := ∀ w', Below W.heap.size W w' → ∀ a b : Nat, Calls Tryd.prog 20 #[.slice k.sa k.sn k.sc, .int .u64 a, .int .u64 b] w' fun e w'' => e = .returned (.bool (k.has a b)) ∧ Below w'.heap.size w' w''
def FlagOk (W : World) (x : LetterD) : Prop := ∀ w', Below W.heap.size W w' → ∀ f : ByteArray, Calls Tryd.prog 21 #[.slice x.fa x.fn x.fc, .string f] w' fun e w'' => e = .returned (.bool (x.flag f)) ∧ w'' = w'
theorem field_val_len (m n v : List UInt8) (h : fieldVal m n = some v) : v.length ≤ m.length := by
  rw [fieldVal, Option.map_eq_some_iff] at h
  obtain ⟨p, hp, rfl⟩ := h
  have hm := List.mem_of_find?_eq_some hp
  rw [fieldsL, List.mem_filterMap] at hm
  obtain ⟨l, hl, hf⟩ := hm
  have h1 := mem_flat_len hl
  have h2 := (fieldLines_len m).2
  have h3 := cut_len l
  rw [fieldL] at hf
  split at hf
  · injection hf with hf
    rw [← hf]
    have h4 := trim_len (Lib.cut l [58]).2.1 [32, 9]
    show (Lib.trimS _ _).length ≤ _; omega
  · cases hf
/-- nothing of W0 has turned -/
def InW (W0 W : World) : Prop := Below W0.heap.size W0 W
/-- what is asked of a key's texts -/
def KeyOk (W : World) (k : KeyD) : Prop := k.field.size ≤ 4194304 ∧ k.text.size ≤ 4194304 ∧ (k.kind = 5 ∨ k.kind = 6 → HasOk W k)
set_option maxRecDepth 100000 in
set_option maxHeartbeats 4000000 in
theorem leaf_any (k : KeyD) (x : LetterD) (p : PlaceD) (s : ByteArray) (m : Int) (w : World) (hs : s.size ≤ 4194304) (hk : k.kind = 11 ∨ k.kind = 12 ∨ k.kind = 13 → k.field.size ≤ 4194304 ∧ k.text.size ≤ 4194304) (hset : k.kind = 5 ∨ k.kind = 6 → HasOk w k) (hf : FlagOk w x)
    (hm : w.cell? ⟨0, 0, none⟩ = some (.int .i64 m)) (h0 : 1 ≤ w.heap.size) :
    Calls Tryd.prog 18 #[keyV k, letterV x, placeV p, .string s] w fun e w' => e = .returned (.bool (leafL k x p s.data.toList)) ∧ Hid (Below w.heap.size w w') := by
  obtain ⟨kind, kids, field, text, n, sa, sn, sc, has⟩ := k
  obtain ⟨uid, fa, fn, fc, md, hash, size, flag⟩ := x
  obtain ⟨seq, ms, mu⟩ := p
  unfold keyV letterV placeV
  dsimp only at hk hset ⊢
  have hmb := Lib.hid (fun w' (h : Below w.heap.size w w') => (h.cell (p := ⟨0, 0, none⟩) (by show 0 < _; omega)).trans hm)
  have hb0 : Below w.heap.size w (((w.alloc (.cells #[.int .i64 kind, .int .i64 kids, .string field, .string text, .int .u64 n, .slice sa sn sc] 36)).alloc (.cells #[.int .u64 uid, .slice fa fn fc, .int .u64 md, .string hash, .int .u64 size] 26)).alloc (.cells #[.int .u64 seq, .int .u64 ms, .int .u64 mu] 28)) := (((Below.refl _ w).alloc (Nat.le_refl _) _).alloc (by simp) _).alloc (by simp; omega) _
  clear hm
  by_cases h5 : kind = 5
  · subst h5
    have hc := hset (.inl rfl) _ hb0 ms seq
    have hL : Hid (leafL ⟨5, kids, field, text, n, sa, sn, sc, has⟩ ⟨uid, fa, fn, fc, md, hash, size, flag⟩ ⟨seq, ms, mu⟩ s.data.toList = has ms seq) := Lib.hid rfl
    replace hc := Lib.hid hc
    clear hset hk
    go_enter Tryd.func18, Tryd.ntmps18
    go_wp2_with fail
    refine hc.out.mono ?_
    rintro e w1 ⟨rfl, hb1⟩
    have hB := Lib.hid (hb0.trans (hb1.mono hb0.size))
    clear hb1 hc hb0
    go_wp2_with fail
    go_ret
    exact ⟨by rw [hL.out]; rfl, hB⟩
  · have k5 : (kind == 5) = false := beq_eq_false_iff_ne.2 h5
    by_cases h6 : kind = 6
    · subst h6
      have hc := hset (.inr rfl) _ hb0 mu uid
      have hL : Hid (leafL ⟨6, kids, field, text, n, sa, sn, sc, has⟩ ⟨uid, fa, fn, fc, md, hash, size, flag⟩ ⟨seq, ms, mu⟩ s.data.toList = has mu uid) := Lib.hid (rfl)
      replace hc := Lib.hid hc
      clear hset hk h5
      go_enter Tryd.func18, Tryd.ntmps18
      go_wp2_with fail
      refine hc.out.mono ?_
      rintro e w1 ⟨rfl, hb1⟩
      have hB := Lib.hid (hb0.trans (hb1.mono hb0.size))
      clear hb1 hc hb0
      go_wp2_with fail
      go_ret
      exact ⟨by rw [hL.out]; rfl, hB⟩

    · have k6 : (kind == 6) = false := beq_eq_false_iff_ne.2 h6
      by_cases h7 : kind = 7
      · subst h7
        have hfc := Lib.hid (fun w' h => hf w' h field)
        have hL : Hid (leafL ⟨7, kids, field, text, n, sa, sn, sc, has⟩ ⟨uid, fa, fn, fc, md, hash, size, flag⟩ ⟨seq, ms, mu⟩ s.data.toList = (flag field == decide (n = 1))) := Lib.hid (rfl)
        have hmx : Tryd.prog.follows .mixedOrders = true := by kernel_rfl
        have hq7 : ((n : Int) == 1) = decide (n = 1) := by
          by_cases h : n = 1
          · subst h; rfl
          · rw [decide_eq_false h]; exact beq_eq_false_iff_ne.2 (by omega)
        clear hset hk h5 h6 hf
        go_enter Tryd.func18, Tryd.ntmps18
        go_wp2_with fail
        go_quiet ((go_at_call 21; refine Calls.quiet_of_same (hfc.out _ (below_drewN hb0 _))))
        go_wp2_with fail
        go_ret
        exact ⟨by rw [hL.out]; rfl, Lib.hid (below_drewN hb0 nq)⟩
      · have k7 : (kind == 7) = false := beq_eq_false_iff_ne.2 h7
        by_cases h8 : kind = 8
        · subst h8
          have hL : Hid (leafL ⟨8, kids, field, text, n, sa, sn, sc, has⟩ ⟨uid, fa, fn, fc, md, hash, size, flag⟩ ⟨seq, ms, mu⟩ s.data.toList = decide (n < size)) := Lib.hid (rfl)
          clear hset hk h5 h6 h7 hf 
          go_enter Tryd.func18, Tryd.ntmps18
          go_wp2_with fail
          go_ret
          exact ⟨by rw [hL.out]; first | rfl | simp, Lib.hid hb0⟩

        · have k8 : (kind == 8) = false := beq_eq_false_iff_ne.2 h8
          by_cases h9 : kind = 9
          · subst h9
            have hL : Hid (leafL ⟨9, kids, field, text, n, sa, sn, sc, has⟩ ⟨uid, fa, fn, fc, md, hash, size, flag⟩ ⟨seq, ms, mu⟩ s.data.toList = decide (size < n)) := Lib.hid (rfl)
            clear hset hk h5 h6 h7 hf h8
            go_enter Tryd.func18, Tryd.ntmps18
            go_wp2_with fail
            go_ret
            exact ⟨by rw [hL.out]; first | rfl | simp, Lib.hid hb0⟩

          · have k9 : (kind == 9) = false := beq_eq_false_iff_ne.2 h9
            by_cases h10 : kind = 10
            · subst h10
              have hL : Hid (leafL ⟨10, kids, field, text, n, sa, sn, sc, has⟩ ⟨uid, fa, fn, fc, md, hash, size, flag⟩ ⟨seq, ms, mu⟩ s.data.toList = decide (n ≤ md)) := Lib.hid (rfl)
              clear hset hk h5 h6 h7 hf h8 h9
              go_enter Tryd.func18, Tryd.ntmps18
              go_wp2_with fail
              go_ret
              exact ⟨by rw [hL.out]; first | rfl | simp, Lib.hid hb0⟩

            · have k10 : (kind == 10) = false := beq_eq_false_iff_ne.2 h10
              by_cases h11 : kind = 11
              · subst h11
                have hc := holds_any s text hs (hk (.inl rfl)).2 m _ (hmb.out _ hb0) (Nat.le_trans h0 hb0.size)
                have hL : Hid (leafL ⟨11, kids, field, text, n, sa, sn, sc, has⟩ ⟨uid, fa, fn, fc, md, hash, size, flag⟩ ⟨seq, ms, mu⟩ s.data.toList = holdsL s.data.toList text.data.toList) := Lib.hid (rfl)
                replace hc := Lib.hid hc
                clear hset hk h5 h6 h7 h8 h9 h10 hf
                go_enter Tryd.func18, Tryd.ntmps18
                go_wp2_with fail
                refine hc.out.mono ?_
                rintro e w1 ⟨rfl, hb1⟩
                have hB := Lib.hid (hb0.trans (hb1.out.mono hb0.size))
                clear hb1 hc hb0
                go_wp2_with fail
                go_ret
                exact ⟨by rw [hL.out]; rfl, hB⟩

              · have k11 : (kind == 11) = false := beq_eq_false_iff_ne.2 h11
                by_cases h12 : kind = 12
                · subst h12
                  have htx := (hk (.inr (.inl rfl))).2
                  have hL : Hid (leafL ⟨12, kids, field, text, n, sa, sn, sc, has⟩ ⟨uid, fa, fn, fc, md, hash, size, flag⟩ ⟨seq, ms, mu⟩ s.data.toList = holdsL (splitM s.data.toList).2 text.data.toList) := Lib.hid (rfl)
                  have hsl2 : (secL s.data.toList 12).length ≤ 4194304 := by
                    have h1 := congrArg List.length (show secL s.data.toList 12 = (splitM s.data.toList).2 from rfl)
                    have h2 : (splitM s.data.toList).2.length ≤ s.data.toList.length := by
                      rw [splitM]
                      split
                      · rw [List.length_drop]; omega
                      · split
                        · exact Nat.zero_le _
                        · rw [List.length_drop]; omega
                    have e : s.data.toList.length = s.size := rfl
                    omega
                  have hin0 : ∀ W0, W0 = (((w.alloc (.cells #[.int .i64 12, .int .i64 kids, .string field, .string text, .int .u64 n, .slice sa sn sc] 36)).alloc (.cells #[.int .u64 uid, .slice fa fn fc, .int .u64 md, .string hash, .int .u64 size] 26)).alloc (.cells #[.int .u64 seq, .int .u64 ms, .int .u64 mu] 28)) → Below w.heap.size w W0 ∧ W0.cell? ⟨w.heap.size, 3, none⟩ = some (.string text) := by
                    rintro W0 rfl
                    exact ⟨hb0, cell_first w _ _ _ _ 3⟩
                  have hsc : ∀ W0, W0 = (((w.alloc (.cells #[.int .i64 12, .int .i64 kids, .string field, .string text, .int .u64 n, .slice sa sn sc] 36)).alloc (.cells #[.int .u64 uid, .slice fa fn fc, .int .u64 md, .string hash, .int .u64 size] 26)).alloc (.cells #[.int .u64 seq, .int .u64 ms, .int .u64 mu] 28)) → ∀ w', InW W0 w' → Calls Tryd.prog 23 #[.string s, .int .i64 12] w' fun e w'' => ∃ u : ByteArray, e = .returned (.string u) ∧ Hid (u.data.toList = secL s.data.toList 12) ∧ InW W0 w'' ∧ w''.cell? ⟨w.heap.size, 3, none⟩ = some (.string text) := fun W0 h w' hi =>
                    (section_any s 12 (by omega) m w' (hmb.out w' ((hin0 W0 h).1.trans (Below.mono hi (hin0 W0 h).1.size)))).mono fun e w'' ⟨u, he, hu, hb⟩ => by
                      have hi2 : Below W0.heap.size W0 w'' := Below.trans hi (hb.out.mono (Below.size hi))
                      exact ⟨u, he, hu, hi2, (hi2.cell (p := ⟨w.heap.size, 3, none⟩) (World.block_lt_of_cell? W0 ⟨w.heap.size, 3, none⟩ (hin0 W0 h).2)).trans (hin0 W0 h).2⟩
                  have hhc : ∀ W0, W0 = (((w.alloc (.cells #[.int .i64 12, .int .i64 kids, .string field, .string text, .int .u64 n, .slice sa sn sc] 36)).alloc (.cells #[.int .u64 uid, .slice fa fn fc, .int .u64 md, .string hash, .int .u64 size] 26)).alloc (.cells #[.int .u64 seq, .int .u64 ms, .int .u64 mu] 28)) → ∀ (u : ByteArray), Hid (u.data.toList = secL s.data.toList 12) → ∀ w', InW W0 w' → Calls Tryd.prog 22 #[.string u, .string text] w' fun e w'' => e = .returned (.bool (holdsL (splitM s.data.toList).2 text.data.toList)) ∧ InW W0 w'' := fun W0 h u hu w' hi =>
                    (holds_any u text (by rw [size_of_list hu.out]; exact hsl2) htx m w' (hmb.out w' ((hin0 W0 h).1.trans (Below.mono hi (hin0 W0 h).1.size))) (Nat.le_trans h0 (Nat.le_trans (hin0 W0 h).1.size (Below.size hi)))).mono fun e w'' ⟨he, hb⟩ => ⟨by rw [he, hu.out]; rfl, Below.trans hi (hb.out.mono (Below.size hi))⟩
                  replace hsc := Lib.hid hsc
                  replace hhc := Lib.hid hhc
                  have hmx : Tryd.prog.follows .mixedOrders = true := by kernel_rfl
                  clear hset hk h5 h6 h7 h8 h9 h10 h11 hf hsl2 htx hmb
                  go_enter Tryd.func18, Tryd.ntmps18
                  go_wp2_with fail
                  generalize hW0 : (((w.alloc (.cells #[.int .i64 12, .int .i64 kids, .string field, .string text, .int .u64 n, .slice sa sn sc] 36)).alloc (.cells #[.int .u64 uid, .slice fa fn fc, .int .u64 md, .string hash, .int .u64 size] 26)).alloc (.cells #[.int .u64 seq, .int .u64 ms, .int .u64 mu] 28)) = W0 at hb0 ⊢
                  have hsc1 := Lib.hid (hsc.out W0 hW0.symm)
                  have hhc1 := Lib.hid (hhc.out W0 hW0.symm)
                  have hct0 := (hin0 W0 hW0.symm).2
                  have hct1 : W0.drew.cell? ⟨w.heap.size, 3, none⟩ = some (.string text) := hct0
                  have hid : InW W0 W0.drew := Below.drew (Below.refl _ _)
                  clear hsc hhc hin0 hW0
                  go_region_with (first
                    | (go_at_call 23; refine (hsc1.out _ (by assumption)).mono ?_; rintro e w4 ⟨u, rfl, hu, hi4, hc4⟩)
                    | (go_at_call 22; refine (hhc1.out _ (by assumption) _ (by assumption)).mono ?_; rintro e w5 ⟨rfl, hi5⟩))
                  all_goals (
                    go_wp2_with fail
                    go_ret
                    exact ⟨by rw [hL.out]; rfl, Lib.hid (hb0.trans (Below.mono hi5 hb0.size))⟩)

                · have k12 : (kind == 12) = false := beq_eq_false_iff_ne.2 h12
                  by_cases h13 : kind = 13
                  · subst h13
                    have hfs := hk (.inr (.inr rfl))
                    have hfc := Lib.hid (field_any s field hs hfs.1 m _ (hmb.out _ hb0) (Nat.le_trans h0 hb0.size))
                    have hhc := Lib.hid (fun (u : ByteArray) (hu : u.size ≤ 4194304) w' (h : Below w.heap.size w w') => holds_any u text hu hfs.2 m w' (hmb.out w' h) (Nat.le_trans h0 h.size))
                    have hL : Hid (leafL ⟨13, kids, field, text, n, sa, sn, sc, has⟩ ⟨uid, fa, fn, fc, md, hash, size, flag⟩ ⟨seq, ms, mu⟩ s.data.toList = (match fieldVal s.data.toList field.data.toList with | none => false | some v => holdsL v text.data.toList)) := Lib.hid rfl
                    have hvs : ∀ v, fieldVal s.data.toList field.data.toList = some v → v.length ≤ 4194304 := fun v hv => by
                      have := field_val_len s.data.toList field.data.toList v hv
                      have e : s.data.toList.length = s.size := rfl
                      omega
                    clear hset hk h5 h6 h7 h8 h9 h10 h11 h12 hf
                    unfold FieldRet at hfc
                    cases hF : fieldVal s.data.toList field.data.toList with
                    | none =>
                      rw [hF] at hfc hL
                      clear hvs hF
                      go_enter Tryd.func18, Tryd.ntmps18
                      go_wp2_with fail
                      refine hfc.out.mono ?_
                      rintro e w1 ⟨u, rfl, hu, hb1⟩
                      have hB := Lib.hid (hb0.trans (hb1.out.mono hb0.size))
                      clear hb1 hfc hb0
                      go_wp2_with fail
                      go_ret
                      exact ⟨by rw [hL.out]; rfl, hB⟩
                    | some v =>
                      have hvl := hvs v hF
                      rw [hF] at hfc hL
                      clear hvs hF
                      replace hfc : Hid (Calls Tryd.prog 24 #[.string s, .string field] _ fun e w' => ∃ u : ByteArray, e = .returned (.tuple #[.string u, .bool true]) ∧ Hid (u.data.toList = v) ∧ Hid (Below _ _ w')) := hfc
                      go_enter Tryd.func18, Tryd.ntmps18
                      go_wp2_with fail
                      refine hfc.out.mono ?_
                      rintro e w1 ⟨u, rfl, hu, hb1⟩
                      have hB := Lib.hid (hb0.trans (hb1.out.mono hb0.size))
                      have hus : u.size ≤ 4194304 := by rw [size_of_list hu.out]; exact hvl
                      have hct : w1.cell? ⟨w.heap.size, 3, none⟩ = some (.string text) := (hb1.out.cell (p := ⟨w.heap.size, 3, none⟩) (by simp; omega)).trans (cell_first w _ _ _ _ 3)
                      have hh := hhc.out u hus w1 hB.out
                      rw [hu.out] at hh
                      replace hh := Lib.hid hh
                      clear hb1 hfc hb0 hhc
                      go_wp2_with fail
                      refine hh.out.mono ?_
                      rintro e w2 ⟨rfl, hb2⟩
                      have hB2 := Lib.hid (hB.out.trans (hb2.out.mono hB.out.size))
                      clear hh hb2
                      go_wp2_with fail
                      go_ret
                      exact ⟨by rw [hL.out]; rfl, hB2⟩

                  · have k13 : (kind == 13) = false := beq_eq_false_iff_ne.2 h13
                    have hL : Hid (leafL ⟨kind, kids, field, text, n, sa, sn, sc, has⟩ ⟨uid, fa, fn, fc, md, hash, size, flag⟩ ⟨seq, ms, mu⟩ s.data.toList = true) := Lib.hid (by rw [leafL]; dsimp only; rw [if_neg h5, if_neg h6, if_neg h7, if_neg h8, if_neg h9, if_neg h10, if_neg h11, if_neg h12, if_neg h13])
                    clear hset hk hf
                    go_enter Tryd.func18, Tryd.ntmps18
                    go_wp2_with fail
                    go_ret
                    exact ⟨by rw [hL.out]; rfl, Lib.hid hb0⟩

end Go.Proofs.YtmlmkcpdgcojlaaDoor
