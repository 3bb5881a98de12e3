/- Match's closure: walked. -/
import Derived.Test.YtmlmkcpdgcojlaaDoorMaD
namespace Go.Proofs.YtmlmkcpdgcojlaaDoor
open Go.RowKit

/-- what is asked of keys and letter, wherever nothing below B has turned since W0 -/
structure Asked (W0 : World) (B : Nat) (ks : List KeyD) (v : Value) (x : LetterD) (m : Int) : Prop where
  keys : KeysIn W0 B v ks
  set : ∀ k ∈ ks, k.kind = 5 ∨ k.kind = 6 → ∀ w', Below B W0 w' → ∀ a b : Nat, Calls Tryd.prog 20 #[.slice k.sa k.sn k.sc, .int .u64 a, .int .u64 b] w' fun e w'' => e = .returned (.bool (k.has a b)) ∧ Below w'.heap.size w' w''
  flag : ∀ w', Below B W0 w' → ∀ f : ByteArray, Calls Tryd.prog 21 #[.slice x.fa x.fn x.fc, .string f] w' fun e w'' => e = .returned (.bool (x.flag f)) ∧ w'' = w'
  mx : W0.cell? ⟨0, 0, none⟩ = some (.int .i64 m)
  pos : 1 ≤ B
  text : ∀ k ∈ ks, k.kind = 11 ∨ k.kind = 12 ∨ k.kind = 13 → k.field.size ≤ 4194304 ∧ k.text.size ≤ 4194304
  wf : ∀ k ∈ ks, k.kids ≤ 9223372036854775807
/-- the closure's boxes: L the keys, A the place, C the closure itself, X the letter, Q its place, M the text -/
structure SaysMem (W0 W : World) (B L A C X Q M : Nat) (v : Value) (x : LetterD) (p : PlaceD) (s : ByteArray) (i : Nat) : Prop where
  base : Below B W0 W
  bl : Boxed W L 22 v
  ba : Boxed W A 3 (.int .i64 i)
  bc : Boxed W C 31 (.func (.func 17) #[] #[.pointer (some ⟨L, 0, none⟩), .pointer (some ⟨A, 0, none⟩), .pointer (some ⟨C, 0, none⟩), .pointer (some ⟨X, 0, none⟩), .pointer (some ⟨Q, 0, none⟩), .pointer (some ⟨M, 0, none⟩)])
  bx : W.heap[X]? = some (.cells #[.int .u64 x.uid, .slice x.fa x.fn x.fc, .int .u64 x.md, .string x.hash, .int .u64 x.size] 26 (0, 0))
  bq : W.heap[Q]? = some (.cells #[.int .u64 p.seq, .int .u64 p.mostSeq, .int .u64 p.mostUid] 28 (0, 0))
  bm : Boxed W M 9 (.string s)
  lt : B ≤ A
  size : B ≤ W.heap.size
  al : A ≠ L ∧ A ≠ C ∧ A ≠ X ∧ A ≠ Q ∧ A ≠ M
theorem heap_below {W W' : World} {b : Nat} {o : Obj} (h : W.heap[b]? = some o) (hb : Below W.heap.size W W') : W'.heap[b]? = some o := (hb.block b (Array.getElem?_eq_some_iff.1 h).1).trans h
theorem SaysMem.later {W0 W W' : World} {B L A C X Q M : Nat} {v : Value} {x : LetterD} {p : PlaceD} {s : ByteArray} {i : Nat} (h : SaysMem W0 W B L A C X Q M v x p s i) (hb : Below W.heap.size W W') : SaysMem W0 W' B L A C X Q M v x p s i :=
  ⟨h.base.trans (hb.mono h.size), boxed_below h.bl hb, boxed_below h.ba hb, boxed_below h.bc hb, heap_below h.bx hb, heap_below h.bq hb, boxed_below h.bm hb, h.lt, Nat.le_trans h.size hb.size, h.al⟩
theorem SaysMem.set {W0 W : World} {B L A C X Q M : Nat} {v : Value} {x : LetterD} {p : PlaceD} {s : ByteArray} {i : Nat} (h : SaysMem W0 W B L A C X Q M v x p s i) (j : Nat) : SaysMem W0 (W.setCell ⟨A, 0, none⟩ (.int .i64 j)) B L A C X Q M v x p s j :=
  ⟨h.base.setCell (p := ⟨A, 0, none⟩) h.lt _, h.bl.other (fun e => h.al.1 e.symm) _, h.ba.set _, h.bc.other (fun e => h.al.2.1 e.symm) _, (heap_setCell_other W ⟨A, 0, none⟩ X _ (fun e => h.al.2.2.1 e.symm)).trans h.bx, (heap_setCell_other W ⟨A, 0, none⟩ Q _ (fun e => h.al.2.2.2.1 e.symm)).trans h.bq, h.bm.other (fun e => h.al.2.2.2.2 e.symm) _, h.lt, by have := h.size; simpa using this, h.al⟩
theorem cell_at {W : World} {b : Nat} {C : Array Value} {t : TypeId} (h : W.heap[b]? = some (.cells C t (0, 0))) (j : Nat) : W.cell? ⟨b, j, none⟩ = C[j]? := by simp [World.cell?, h]
def SaysRet (W0 : World) (B L A C X Q M : Nat) (v : Value) (x : LetterD) (p : PlaceD) (s : ByteArray) (r : Bool × Nat) (W : World) (e : Ending) (W' : World) : Prop :=
  e = .returned (.bool r.1) ∧ Hid (SaysMem W0 W' B L A C X Q M v x p s r.2) ∧ Hid (Kx W A A W')
set_option maxRecDepth 100000 in
set_option maxHeartbeats 4000000 in
theorem says_any (ks : List KeyD) (hks : ks.length ≤ 32) (W0 : World) (B L A C X Q M : Nat) (v : Value) (x : LetterD) (p : PlaceD) (s : ByteArray) (m : Int) (hs : s.size ≤ 4194304) (hA : Asked W0 B ks v x m) :
    ∀ (f i d J : Nat) (W : World), oneI ks f i d = some J → SaysMem W0 W B L A C X Q M v x p s i →
    Calls Tryd.prog 17 #[.pointer (some ⟨L, 0, none⟩), .pointer (some ⟨A, 0, none⟩), .pointer (some ⟨C, 0, none⟩), .pointer (some ⟨X, 0, none⟩), .pointer (some ⟨Q, 0, none⟩), .pointer (some ⟨M, 0, none⟩)] W
      (SaysRet W0 B L A C X Q M v x p s (saysI ks (fun k => leafL k x p s.data.toList) f i) W)
  | 0, i, d, J, W, h, _ => by cases h
  | f + 1, i, d, J, W, h, hM => by
    have ih := Lib.hid (says_any ks hks W0 B L A C X Q M v x p s m hs hA f)
    obtain ⟨hi, hk0, hk8, hmany⟩ := one_split h
    have cA := hM.ba.cell
    have fA := hM.ba.frozen
    have cL := hM.bl.cell
    obtain ⟨ao, cap, rfl, hk | ⟨b, o, rfl, hbB, hcap, hcells⟩⟩ := hA.keys.later hM.base
    · rw [hk] at hi; simp at hi
    · have hc := hcells i hi
      have hS : saysI ks (fun k => leafL k x p s.data.toList) (f + 1) i = if ks[i].kind = 1 then allI (saysI ks (fun k => leafL k x p s.data.toList) f) ks[i].kids.toNat true (i + 1)
          else if ks[i].kind = 2 then (!(saysI ks (fun k => leafL k x p s.data.toList) f (i + 1)).1, (saysI ks (fun k => leafL k x p s.data.toList) f (i + 1)).2)
          else if ks[i].kind = 3 then ((saysI ks (fun k => leafL k x p s.data.toList) f (saysI ks (fun k => leafL k x p s.data.toList) f (i + 1)).2).1 || (saysI ks (fun k => leafL k x p s.data.toList) f (i + 1)).1, (saysI ks (fun k => leafL k x p s.data.toList) f (saysI ks (fun k => leafL k x p s.data.toList) f (i + 1)).2).2)
          else (leafL ks[i] x p s.data.toList, i + 1) := by
        rw [saysI, List.getElem?_eq_getElem hi]
      have hmem := List.getElem_mem hi
      have hidx := Lib.hid (fun j j' => says_idx ks (fun k => leafL k x p s.data.toList) f j (d + 1) j')
      generalize ks[i] = k at hc hS hk0 hk8 hmany hmem
      generalize hG : saysI ks (fun k => leafL k x p s.data.toList) f = G at hS ih hidx
      obtain ⟨c0, c1, c2, c3, c4, c5⟩ := hc
      clear hcells h
      have hAlt := hM.ba.lt
      have hbk := (Below.refl _ W).alloc (Nat.le_refl _) (.cells #[.int .i64 k.kind, .int .i64 k.kids, .string k.field, .string k.text, .int .u64 k.n, .slice k.sa k.sn k.sc] 36)
      have hM1 := hM.later hbk
      have hMs := hM.set (i + 1)
      have hKs := (Kx.refl W A A).set (.inl rfl) (.int .i64 ((i + 1 : Nat) : Int))
      rw [show ((i + 1 : Nat) : Int) = (i : Int) + 1 from rfl] at hMs hKs
      have hbs := (Below.refl _ (W.setCell ⟨A, 0, none⟩ (.int .i64 ((i : Int) + 1)))).alloc (Nat.le_refl _) (.cells #[.int .i64 k.kind, .int .i64 k.kids, .string k.field, .string k.text, .int .u64 k.n, .slice k.sa k.sn k.sc] 36)
      have hM2 := hMs.later hbs
      have hK2 := hKs.trans (Kx.of_below (b := A) hbs)
      have cA1 := hM1.ba.cell
      have fA1 := hM1.ba.frozen
      have hkc : ((W.setCell ⟨A, 0, none⟩ (.int .i64 ((i : Int) + 1))).alloc (.cells #[.int .i64 k.kind, .int .i64 k.kids, .string k.field, .string k.text, .int .u64 k.n, .slice k.sa k.sn k.sc] 36)).heap[W.heap.size]? = some (.cells #[.int .i64 k.kind, .int .i64 k.kids, .string k.field, .string k.text, .int .u64 k.n, .slice k.sa k.sn k.sc] 36 (0, 0)) := by
        have h9 := heap_alloc_new (W.setCell ⟨A, 0, none⟩ (.int .i64 ((i : Int) + 1))) (.cells #[.int .i64 k.kind, .int .i64 k.kids, .string k.field, .string k.text, .int .u64 k.n, .slice k.sa k.sn k.sc] 36)
        have h8 : (W.setCell ⟨A, 0, none⟩ (.int .i64 ((i : Int) + 1))).heap.size = W.heap.size := by simp
        rwa [h8] at h9
      have q0 := cell_at hkc 0
      have q1 := cell_at hkc 1
      have q2 := cell_at hkc 2
      have q3 := cell_at hkc 3
      have q4 := cell_at hkc 4
      have q5 := cell_at hkc 5
      replace hM2 := Lib.hid hM2
      replace hK2 := Lib.hid hK2
      clear hM1 hbk hM hkc fA hMs hKs hbs
      have cC := hM2.out.bc.cell
      replace hS := Lib.hid hS
      by_cases h1 : k.kind = 1
      · have k1 : (k.kind == 1) = true := beq_iff_eq.2 h1
        have hkk : 1 ≤ k.kids ∧ kidsL k = k.kids := by
          unfold kidsL at hk0 ⊢
          by_cases hh : 1 ≤ k.kids
          · exact ⟨hh, by rw [if_pos ⟨h1, hh⟩]⟩
          · rw [if_neg (by omega), if_neg (by omega), if_neg (by omega), if_neg (by omega)] at hk0; omega
        have hr := hS
        obtain ⟨n, hn⟩ : ∃ n : Nat, k.kids = n := ⟨k.kids.toNat, by omega⟩
        have hn9 : n ≤ 9223372036854775807 := by have := hA.wf k hmem; omega
        rw [hkk.2, hn] at hmany
        replace hr : Hid (saysI ks (fun k => leafL k x p s.data.toList) (f + 1) i = allI G n true (i + 1)) := Lib.hid (by rw [hS.out, if_pos h1, hn]; rfl)
        have hmany' : manyI (fun j => oneI ks f j (d + 1)) n (i + 1) = some J := hmany
        replace hmany := Lib.hid hmany'
        replace hn := Lib.hid hn
        clear hS hkk hk0 hk8 h1 hmany'
        go_enter Tryd.func17, Tryd.ntmps17
        go_wp2_with fail
        generalize (W.setCell ⟨A, 0, none⟩ (.int .i64 ((i : Int) + 1))).alloc (.cells #[.int .i64 k.kind, .int .i64 k.kids, .string k.field, .string k.text, .int .u64 k.n, .slice k.sa k.sn k.sc] 36) = W2 at hM2 hK2 ⊢
        rw [hn.out]
        clear hn
        clear cA cA1 fA1 cL cC q0 q1 q2 q3 q4 q5
        go_loopw [8, 22] (fun v8 v22 wr => ∃ (q j : Nat) (acc : Bool), v22 = .int .i64 q ∧ v8 = .bool acc ∧ q ≤ n ∧ Hid (SaysMem W0 wr B L A C X Q M (.slice (some ⟨b, o, none⟩) ks.length cap) x p s j) ∧ Hid (Kx W A A wr) ∧ Hid (manyI (fun j => oneI ks f j (d + 1)) (n - q) j = some J) ∧ Hid (saysI ks (fun k => leafL k x p s.data.toList) (f + 1) i = allI G (n - q) acc j)) (fun _ v22 _ => n - (intOf v22).toNat)
        case atStart => exact ⟨0, i + 1, true, rfl, rfl, Nat.zero_le _, hM2, hK2, hmany, hr⟩
        case round =>
          clear hM2 hK2 hmany hr
          obtain ⟨q, j, acc, rfl, rfl, hq, hMr, hKr, hmr, hrr⟩ := hrel
          by_cases hlt : q < n
          · have hsub : n - q = (n - (q + 1)) + 1 := by omega
            rw [hsub] at hmr hrr
            obtain ⟨j1, hj1, hm1⟩ := manyI_succ hmr.out
            have hg := hidx.out _ _ hj1
            have hrr1 : Hid (saysI ks (fun k => leafL k x p s.data.toList) (f + 1) i = allI G (n - (q + 1)) ((G j).1 && acc) j1) := Lib.hid (by rw [hrr.out, allI, hg])
            have hcall := Lib.hid (ih.out j (d + 1) j1 wr hj1 hMr.out)
            unfold SaysRet at hcall
            rw [hg] at hcall
            have cC := hMr.out.bc.cell
            replace hm1 := Lib.hid hm1
            clear hmr hrr hj1 hg hsub
            cases hgj : (G j).1
            · rw [hgj] at hrr1 hcall
              go_wp2_with fail
              refine hcall.out.mono ?_
              rintro e W3 ⟨rfl, hM3, hK3⟩
              have hK4 := Lib.hid (hKr.out.trans hK3.out)
              clear hcall cC hK3
              go_wp2_with fail
              go_roundw
              case rel => exact ⟨q + 1, j1, false, by go_num, rfl, by omega, hM3, hK4, hm1, hrr1⟩
              case measure => simp [intOf] <;> omega
            · rw [hgj] at hrr1 hcall
              go_wp2_with fail
              refine hcall.out.mono ?_
              rintro e W3 ⟨rfl, hM3, hK3⟩
              have hK4 := Lib.hid (hKr.out.trans hK3.out)
              clear hcall cC hK3
              go_wp2_with fail
              go_roundw
              case rel => exact ⟨q + 1, j1, acc, by go_num, rfl, by omega, hM3, hK4, hm1, hrr1⟩
              case measure => simp [intOf] <;> omega
          · obtain rfl : q = n := by omega
            rw [Nat.sub_self] at hmr hrr
            have hjJ : j = J := Option.some.inj hmr.out
            go_wp2_with fail
            go_ret
            exact ⟨by rw [hrr.out]; rfl, by rw [hrr.out]; exact hMr, hKr⟩

      · have k1 : (k.kind == 1) = false := beq_eq_false_iff_ne.2 h1
        by_cases h2 : k.kind = 2
        · have k2 : (k.kind == 2) = true := beq_iff_eq.2 h2
          have hr : Hid (saysI ks (fun k => leafL k x p s.data.toList) (f + 1) i = (!(G (i + 1)).1, (G (i + 1)).2)) := Lib.hid (by rw [hS.out, if_neg h1, if_pos h2])
          have hkk : kidsL k = 1 := by unfold kidsL; rw [if_neg (by omega), if_pos h2]
          rw [hkk] at hmany
          obtain ⟨q, hq, _⟩ := manyI_succ (n := 0) hmany
          replace hq := Lib.hid hq
          clear hS hmany hkk hk0 hk8 h1 h2
          go_enter Tryd.func17, Tryd.ntmps17
          go_wp2_with fail
          generalize (W.setCell ⟨A, 0, none⟩ (.int .i64 ((i : Int) + 1))).alloc (.cells #[.int .i64 k.kind, .int .i64 k.kids, .string k.field, .string k.text, .int .u64 k.n, .slice k.sa k.sn k.sc] 36) = W2 at hM2 hK2 ⊢
          clear cA cA1 fA1 cL cC q0 q1 q2 q3 q4 q5
          refine (ih.out (i + 1) (d + 1) q W2 hq.out hM2.out).mono ?_
          rintro e W3 ⟨rfl, hM3, hK3⟩
          have hK4 := Lib.hid (hK2.out.trans hK3.out)
          clear ih hK2 hK3 hM2
          go_wp2_with fail
          go_ret
          exact ⟨by rw [hr.out]; rfl, by rw [hr.out]; exact hM3, hK4⟩

        · have k2 : (k.kind == 2) = false := beq_eq_false_iff_ne.2 h2
          by_cases h3 : k.kind = 3
          · have k3 : (k.kind == 3) = true := beq_iff_eq.2 h3
            have hr : Hid (saysI ks (fun k => leafL k x p s.data.toList) (f + 1) i = ((G (G (i + 1)).2).1 || (G (i + 1)).1, (G (G (i + 1)).2).2)) := Lib.hid (by rw [hS.out, if_neg h1, if_neg h2, if_pos h3])
            have hkk : kidsL k = 2 := by unfold kidsL; rw [if_neg (by omega), if_neg h2, if_pos h3]
            rw [hkk] at hmany
            obtain ⟨q, hq, hmany⟩ := manyI_succ (n := 1) hmany
            obtain ⟨qz, hqz, _⟩ := manyI_succ (n := 0) hmany
            have hg := hidx.out _ _ hq
            rw [hg] at hr
            replace hg := Lib.hid hg
            replace hq := Lib.hid hq
            replace hqz := Lib.hid hqz
            clear hS hmany hkk hk0 hk8 h1 h2 h3
            go_enter Tryd.func17, Tryd.ntmps17
            go_wp2_with fail
            generalize (W.setCell ⟨A, 0, none⟩ (.int .i64 ((i : Int) + 1))).alloc (.cells #[.int .i64 k.kind, .int .i64 k.kids, .string k.field, .string k.text, .int .u64 k.n, .slice k.sa k.sn k.sc] 36) = W2 at hM2 hK2 ⊢
            clear cA cA1 fA1 cL cC q0 q1 q2 q3 q4 q5
            refine (ih.out (i + 1) (d + 1) q W2 hq.out hM2.out).mono ?_
            rintro e W3 ⟨rfl, hM3, hK3⟩
            have hK4 := Lib.hid (hK2.out.trans hK3.out)
            rw [hg.out] at hM3
            have cC3 := hM3.out.bc.cell
            clear hK2 hK3 hM2
            generalize (G (i + 1)).1 = a1 at hr ⊢
            go_wp2_with fail
            refine (ih.out q (d + 1) qz W3 hqz.out hM3.out).mono ?_
            rintro e W5 ⟨rfl, hM5, hK5⟩
            have hK6 := Lib.hid (hK4.out.trans hK5.out)
            clear ih hK4 hK5 hM3 cC3
            cases hb1 : (G q).1
            · rw [hb1] at hr
              go_wp2_with fail
              go_ret
              exact ⟨by rw [hr.out]; rfl, by rw [hr.out]; exact hM5, hK6⟩
            · rw [hb1] at hr
              go_wp2_with fail
              go_ret
              exact ⟨by rw [hr.out]; rfl, by rw [hr.out]; exact hM5, hK6⟩

          · have k3 : (k.kind == 3) = false := beq_eq_false_iff_ne.2 h3
            have hr : Hid (saysI ks (fun k => leafL k x p s.data.toList) (f + 1) i = (leafL k x p s.data.toList, i + 1)) := Lib.hid (by rw [hS.out, if_neg h1, if_neg h2, if_neg h3])
            have hlf : ∀ W2, SaysMem W0 W2 B L A C X Q M (.slice (some ⟨b, o, none⟩) ks.length cap) x p s (i + 1) → Calls Tryd.prog 18 #[keyV k, letterV x, placeV p, .string s] W2 fun e w' => e = .returned (.bool (leafL k x p s.data.toList)) ∧ Hid (Below W2.heap.size W2 w') := fun W2 h =>
              leaf_any k x p s m W2 hs (hA.text k hmem) (fun hk w' hb => hA.set k hmem hk w' (h.base.trans (hb.mono h.size))) (fun w' hb => hA.flag w' (h.base.trans (hb.mono h.size))) ((h.base.cell (p := ⟨0, 0, none⟩) (by show 0 < B; have := hA.pos; omega)).trans hA.mx) (Nat.le_trans hA.pos h.size)
            have hlf2 := Lib.hid (hlf _ hM2.out)
            unfold keyV letterV placeV at hlf2
            have x0 := cell_at hM2.out.bx 0
            have x1 := cell_at hM2.out.bx 1
            have x2 := cell_at hM2.out.bx 2
            have x3 := cell_at hM2.out.bx 3
            have x4 := cell_at hM2.out.bx 4
            have y0 := cell_at hM2.out.bq 0
            have y1 := cell_at hM2.out.bq 1
            have y2 := cell_at hM2.out.bq 2
            have z0 := hM2.out.bm.cell
            clear hS hmany hk0 hk8 h1 h2 h3 hlf ih hidx hA
            go_enter Tryd.func17, Tryd.ntmps17
            go_wp2_with fail
            refine hlf2.out.mono ?_
            rintro e W3 ⟨rfl, hb3⟩
            have hM3 := Lib.hid (hM2.out.later hb3.out)
            have hK4 := Lib.hid (hK2.out.trans (Kx.of_below hb3.out))
            clear hlf2 hM2 hK2 hb3 q0 q1 q2 q3 q4 q5 x0 x1 x2 x3 x4 y0 y1 y2 z0 cA cA1 fA1 cL cC
            go_wp2_with fail
            go_ret
            exact ⟨by rw [hr.out]; rfl, by rw [hr.out]; exact hM3, hK4⟩

end Go.Proofs.YtmlmkcpdgcojlaaDoor
