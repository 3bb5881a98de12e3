/- Whole: keys that call for their kids; the closure that calls itself, walked. -/
import Derived.Test.YtmlmkcpdgcojlaaDoorMaA
namespace Go.Proofs.YtmlmkcpdgcojlaaDoor
open Go.RowKit

def manyI (g : Nat → Option Nat) : Nat → Nat → Option Nat
  | 0, j => some j
  | n + 1, j => (g j).bind (manyI g n)
/-- the place behind the key at place i with all its kids; none: it isn't whole -/
def oneI (ks : List KeyD) : Nat → Nat → Nat → Option Nat
  | 0, _, _ => none
  | f + 1, i, d => match ks[i]? with
    | none => none
    | some k => if 0 < kidsL k ∧ 8 < d then none else if kidsL k < 0 then none else manyI (fun j => oneI ks f j (d + 1)) (kidsL k).toNat (i + 1)
theorem manyI_gt {g : Nat → Option Nat} {N : Nat} (hg : ∀ j j', g j = some j' → j < j' ∧ j' ≤ N) : ∀ (n j j' : Nat), j ≤ N → manyI g n j = some j' → j ≤ j' ∧ j' ≤ N
  | 0, j, j', hj, h => by
    have : j = j' := Option.some.inj h
    omega
  | n + 1, j, j', hj, h => by
    rw [manyI] at h
    cases hc : g j with
    | none => rw [hc] at h; cases h
    | some q =>
      rw [hc] at h
      have h1 := hg j q hc
      have h2 := manyI_gt hg n q j' h1.2 h
      omega
theorem oneI_gt (ks : List KeyD) : ∀ (f i d j : Nat), oneI ks f i d = some j → i < j ∧ j ≤ ks.length
  | 0, i, d, j, h => by cases h
  | f + 1, i, d, j, h => by
    rw [oneI] at h
    cases hk : ks[i]? with
    | none => rw [hk] at h; cases h
    | some k =>
      rw [hk] at h
      have hi : i < ks.length := (List.getElem?_eq_some_iff.1 hk).1
      dsimp only at h
      split at h
      · cases h
      · split at h
        · cases h
        · have := manyI_gt (fun j j' => oneI_gt ks f j (d + 1) j') _ _ _ (by omega) h
          omega
/-- key k lies at place o of block b -/
def KeyAt (w : World) (b o : Nat) (k : KeyD) : Prop := w.cell? ⟨b, o, none⟩ = some (.int .i64 k.kind) ∧ w.cell? ⟨b, o + 1, none⟩ = some (.int .i64 k.kids) ∧ w.cell? ⟨b, o + 2, none⟩ = some (.string k.field) ∧
  w.cell? ⟨b, o + 3, none⟩ = some (.string k.text) ∧ w.cell? ⟨b, o + 4, none⟩ = some (.int .u64 k.n) ∧ w.cell? ⟨b, o + 5, none⟩ = some (.slice k.sa k.sn k.sc)
theorem KeyAt.later {w w' : World} {B b o : Nat} {k : KeyD} (h : KeyAt w b o k) (hb : Below B w w') (hlt : b < B) : KeyAt w' b o k :=
  ⟨(hb.cell (p := ⟨b, o, none⟩) hlt).trans h.1, (hb.cell (p := ⟨b, o + 1, none⟩) hlt).trans h.2.1, (hb.cell (p := ⟨b, o + 2, none⟩) hlt).trans h.2.2.1, (hb.cell (p := ⟨b, o + 3, none⟩) hlt).trans h.2.2.2.1, (hb.cell (p := ⟨b, o + 4, none⟩) hlt).trans h.2.2.2.2.1, (hb.cell (p := ⟨b, o + 5, none⟩) hlt).trans h.2.2.2.2.2⟩
/-- the keys lie in v, in a block below B -/
def KeysIn (w : World) (B : Nat) (v : Value) (ks : List KeyD) : Prop := ∃ ao cap, v = .slice ao ks.length cap ∧ (ks = [] ∨ ∃ b o, ao = some ⟨b, o, none⟩ ∧ b < B ∧ ks.length ≤ cap ∧ ∀ j, (h : j < ks.length) → KeyAt w b (o + j * 6) ks[j])
theorem KeysIn.later {w w' : World} {B : Nat} {v : Value} {ks : List KeyD} (h : KeysIn w B v ks) (hb : Below B w w') : KeysIn w' B v ks := by
  obtain ⟨ao, cap, hv, h | ⟨b, o, ha, hlt, hle, hc⟩⟩ := h
  · exact ⟨ao, cap, hv, .inl h⟩
  · exact ⟨ao, cap, hv, .inr ⟨b, o, ha, hlt, hle, fun j hj => (hc j hj).later hb hlt⟩⟩
/-- all that lay in W0 lies as it lay, but for blocks b1, b2 -/
def Kx (W0 : World) (b1 b2 : Nat) (W : World) : Prop := W.os = W0.os ∧ W.tape = W0.tape ∧ W.output = W0.output ∧ W0.heap.size ≤ W.heap.size ∧ ∀ k, k < W0.heap.size → k ≠ b1 → k ≠ b2 → W.heap[k]? = W0.heap[k]?
theorem Kx.refl (W : World) (b1 b2 : Nat) : Kx W b1 b2 W := ⟨rfl, rfl, rfl, Nat.le_refl _, fun _ _ _ _ => rfl⟩
theorem Kx.set {W0 W : World} {b1 b2 b : Nat} (h : Kx W0 b1 b2 W) (hb : b = b1 ∨ b = b2) (v : Value) : Kx W0 b1 b2 (W.setCell ⟨b, 0, none⟩ v) :=
  ⟨h.1, h.2.1, h.2.2.1, by have := h.2.2.2.1; simpa using this, fun k hk h1 h2 => by
    rw [heap_setCell_other W ⟨b, 0, none⟩ k v (by rcases hb with rfl | rfl <;> (show k ≠ _; omega))]
    exact h.2.2.2.2 k hk h1 h2⟩
theorem Kx.own {β : Type} (W0 : World) (b1 b2 : Nat) : OwnFrom W0.heap.size (fun (_ : β) W => Kx W0 b1 b2 W) := fun _ A B row hs hg hr =>
  ⟨hg.os.trans hs.1, hg.tape.trans hs.2.1, hg.output.trans hs.2.2.1, Nat.le_trans hs.2.2.2.1 hg.size, fun k hk h1 h2 => by
    rw [hg.block k (Nat.lt_of_lt_of_le hk hs.2.2.2.1) (fun e => by have := (hr k e.symm).1; omega)]
    exact hs.2.2.2.2 k hk h1 h2⟩
theorem Kx.below {w W0 W : World} {b1 b2 : Nat} (h : Kx W0 b1 b2 W) (hb : Below w.heap.size w W0) (h1 : w.heap.size ≤ b1) (h2 : w.heap.size ≤ b2) : Below w.heap.size w W :=
  ⟨h.1.trans hb.os, h.2.1.trans hb.tape, h.2.2.1.trans hb.output, Nat.le_trans hb.size h.2.2.2.1, fun k hk => (h.2.2.2.2 k (Nat.lt_of_lt_of_le hk hb.size) (by omega) (by omega)).trans (hb.block k hk)⟩
theorem Kx.box {W0 W : World} {b1 b2 b : Nat} {t : TypeId} {v : Value} (h : Kx W0 b1 b2 W) (hb : Boxed W0 b t v) (h1 : b ≠ b1) (h2 : b ≠ b2) : Boxed W b t v := (h.2.2.2.2 b hb.lt h1 h2).trans hb
theorem Kx.cell {W0 W : World} {b1 b2 b j : Nat} {v : Value} (h : Kx W0 b1 b2 W) (hb : W0.cell? ⟨b, j, none⟩ = some v) (h1 : b ≠ b1) (h2 : b ≠ b2) : W.cell? ⟨b, j, none⟩ = some v :=
  (World.cell?_of_block (a := ⟨b, j, none⟩) (h.2.2.2.2 b (World.block_lt_of_cell? W0 ⟨b, j, none⟩ hb) h1 h2)).trans hb
theorem Kx.trans {W0 W W2 : World} {b : Nat} (h : Kx W0 b b W) (k : Kx W b b W2) : Kx W0 b b W2 :=
  ⟨k.1.trans h.1, k.2.1.trans h.2.1, k.2.2.1.trans h.2.2.1, Nat.le_trans h.2.2.2.1 k.2.2.2.1, fun x hx h1 h2 => (k.2.2.2.2 x (Nat.lt_of_lt_of_le hx h.2.2.2.1) h1 h2).trans (h.2.2.2.2 x hx h1 h2)⟩
theorem Kx.of_below {W0 W : World} {b : Nat} (h : Below W0.heap.size W0 W) : Kx W0 b b W := ⟨h.os, h.tape, h.output, h.size, fun k hk _ _ => h.block k hk⟩
theorem Kx.out {W0 W : World} {B b : Nat} (h : Kx W0 b b W) (hB : B ≤ b) (hs : B ≤ W0.heap.size) : Below B W0 W := ⟨h.1, h.2.1, h.2.2.1, h.2.2.2.1, fun k hk => h.2.2.2.2 k (by omega) (by omega) (by omega)⟩
/-- the closure's boxes: A the place, L the keys, C the closure itself; the keys lie below B -/
structure WholeMem (W : World) (B A L C : Nat) (ks : List KeyD) (v : Value) (i : Nat) : Prop where
  ba : Boxed W A 3 (.int .i64 i)
  bl : Boxed W L 22 v
  bc : Boxed W C 43 (.func (.func 13) #[] #[.pointer (some ⟨A, 0, none⟩), .pointer (some ⟨L, 0, none⟩), .pointer (some ⟨C, 0, none⟩)])
  keys : KeysIn W B v ks
  lt : B ≤ A
  size : B ≤ W.heap.size
  al : A ≠ L
  ac : A ≠ C
theorem WholeMem.later {W W' : World} {B A L C : Nat} {ks : List KeyD} {v : Value} {i : Nat} (h : WholeMem W B A L C ks v i) (hb : Below W.heap.size W W') : WholeMem W' B A L C ks v i :=
  ⟨boxed_below h.ba hb, boxed_below h.bl hb, boxed_below h.bc hb, h.keys.later (hb.mono h.size), h.lt, Nat.le_trans h.size hb.size, h.al, h.ac⟩
theorem WholeMem.set {W : World} {B A L C : Nat} {ks : List KeyD} {v : Value} {i : Nat} (h : WholeMem W B A L C ks v i) (j : Nat) : WholeMem (W.setCell ⟨A, 0, none⟩ (.int .i64 j)) B A L C ks v j :=
  ⟨h.ba.set _, h.bl.other (fun e => h.al e.symm) _, h.bc.other (fun e => h.ac e.symm) _, h.keys.later ((Below.refl _ _).setCell (p := ⟨A, 0, none⟩) h.lt _), h.lt, by have := h.size; simpa using this, h.al, h.ac⟩
/-- what the closure hands back -/
def OneRet (ks : List KeyD) (B A L C : Nat) (v : Value) (r : Option Nat) (W : World) (e : Ending) (W' : World) : Prop :=
  ∃ (ok : Bool) (i' : Nat), e = .returned (.bool ok) ∧ Hid (WholeMem W' B A L C ks v i') ∧ i' ≤ ks.length ∧ Hid (Kx W A A W') ∧ Hid (r = if ok = true then some i' else none)
theorem kidsL_le {k : KeyD} (h : k.kids ≤ 9223372036854775807) : kidsL k ≤ 9223372036854775807 := by
  unfold kidsL
  repeat' split
  all_goals omega
set_option maxRecDepth 100000 in
set_option maxHeartbeats 2000000 in
theorem one_any (ks : List KeyD) (hks : ks.length ≤ 32) (hwf : ∀ k ∈ ks, k.kids ≤ 9223372036854775807) (B A L C : Nat) (v : Value) : ∀ (f i d : Nat) (W : World), ks.length - i < f → i ≤ ks.length → d ≤ 9 → WholeMem W B A L C ks v i →
    Calls Tryd.prog 13 #[.int .i64 d, .pointer (some ⟨A, 0, none⟩), .pointer (some ⟨L, 0, none⟩), .pointer (some ⟨C, 0, none⟩)] W (OneRet ks B A L C v (oneI ks f i d) W)
  | 0, i, d, W, hf, _, _, _ => by omega
  | f + 1, i, d, W, hf, hi, hd, hM => by
    have ih := Lib.hid (one_any ks hks hwf B A L C v f)
    have hkd := Lib.hid kids_any
    have cA := hM.ba.cell
    have fA := hM.ba.frozen
    have cL := hM.bl.cell
    have cC := hM.bc.cell
    by_cases hlt : i < ks.length
    · obtain ⟨ao, cap, rfl, hk | ⟨b, o, rfl, hbB, hcap, hcells⟩⟩ := hM.keys
      · rw [hk] at hlt; simp at hlt
      · have hc := hcells i hlt
        have h1 : oneI ks (f + 1) i d = if 0 < kidsL ks[i] ∧ 8 < d then none else if kidsL ks[i] < 0 then none else manyI (fun j => oneI ks f j (d + 1)) (kidsL ks[i]).toNat (i + 1) := by
          rw [oneI, List.getElem?_eq_getElem hlt]
        replace h1 := Lib.hid h1
        replace hkd := Lib.hid (hkd.out ks[i])
        have hkl := kidsL_le (hwf _ (List.getElem_mem hlt))
        generalize ks[i] = k at hc h1 hkd hkl
        obtain ⟨c0, c1, c2, c3, c4, c5⟩ := hc
        clear hcells
        unfold keyV at hkd
        generalize hK : kidsL k = n at h1 hkd hkl
        clear hK
        replace hM := Lib.hid hM
        by_cases hneg : n < 0
        · have hr : Hid (oneI ks (f + 1) i d = none) := Lib.hid (by rw [h1.out, if_neg (by omega), if_pos hneg])
          have hn0 : (n == 0) = false := beq_eq_false_iff_ne.2 (by omega)
          clear h1 ih
          go_enter Tryd.func13, Tryd.ntmps13
          go_wp2_with fail
          refine (hkd.out W).mono ?_
          rintro e W1 ⟨rfl, hb1⟩
          have hM1 := hM.out.later hb1.out
          have hMs := hM1.set (i + 1)
          have hKs := (Kx.of_below (b := A) hb1.out).set (.inl rfl) (.int .i64 ((i + 1 : Nat) : Int))
          rw [show ((i + 1 : Nat) : Int) = (i : Int) + 1 from rfl] at hMs hKs
          replace cA := hM1.ba.cell
          replace fA := hM1.ba.frozen
          clear hM hM1 hb1 hkd c0 c1 c2 c3 c4 c5 cL cC
          go_wp2_with fail
          generalize W1.setCell ⟨A, 0, none⟩ (.int .i64 ((i : Int) + 1)) = W2 at hMs hKs ⊢
          replace hMs := Lib.hid hMs
          replace hKs := Lib.hid hKs
          clear cA fA

          go_loopw [6] (fun v6 wr => v6 = .int .i64 n ∧ wr = W2) (fun _ _ => 0)
          case atStart => exact ⟨rfl, rfl⟩
          case round =>
            obtain ⟨rfl, rfl⟩ := hrel
            go_wp2_with fail
            go_ret
            exact ⟨false, i + 1, rfl, hMs, hlt, hKs, Lib.hid (by rw [hr.out]; rfl)⟩
        · obtain ⟨n, rfl⟩ : ∃ q : Nat, n = q := ⟨n.toNat, by omega⟩
          clear hneg
          by_cases hdeep : 0 < n ∧ 8 < d
          · have hr : Hid (oneI ks (f + 1) i d = none) := Lib.hid (by rw [h1.out, if_pos (by omega)])
            obtain ⟨hn1, hd8⟩ := hdeep
            clear h1 ih
            go_enter Tryd.func13, Tryd.ntmps13
            go_wp2_with fail
            refine (hkd.out W).mono ?_
            rintro e W1 ⟨rfl, hb1⟩
            have hM1 := hM.out.later hb1.out
            have hMs := hM1.set (i + 1)
            have hKs := (Kx.of_below (b := A) hb1.out).set (.inl rfl) (.int .i64 ((i + 1 : Nat) : Int))
            rw [show ((i + 1 : Nat) : Int) = (i : Int) + 1 from rfl] at hMs hKs
            replace cA := hM1.ba.cell
            replace fA := hM1.ba.frozen
            clear hM hM1 hb1 hkd c0 c1 c2 c3 c4 c5 cL cC
            go_wp2_with fail
            go_ret
            exact ⟨false, i + 1, rfl, Lib.hid hMs, hlt, Lib.hid hKs, Lib.hid (by rw [hr.out]; rfl)⟩
          · have hr : Hid (oneI ks (f + 1) i d = manyI (fun j => oneI ks f j (d + 1)) n (i + 1)) := Lib.hid (by rw [h1.out, if_neg (by omega), if_neg (by omega)]; rfl)
            have hd1 : n = 0 ∨ d ≤ 8 := by omega
            clear h1 hdeep
            by_cases hn0 : n = 0
            · subst hn0
              replace hr : Hid (oneI ks (f + 1) i d = some (i + 1)) := hr
              clear ih
              go_enter Tryd.func13, Tryd.ntmps13
              go_wp2_with fail
              refine (hkd.out W).mono ?_
              rintro e W1 ⟨rfl, hb1⟩
              have hM1 := hM.out.later hb1.out
              have hMs := hM1.set (i + 1)
              have hKs := (Kx.of_below (b := A) hb1.out).set (.inl rfl) (.int .i64 ((i + 1 : Nat) : Int))
              rw [show ((i + 1 : Nat) : Int) = (i : Int) + 1 from rfl] at hMs hKs
              replace cA := hM1.ba.cell
              replace fA := hM1.ba.frozen
              clear hM hM1 hb1 hkd c0 c1 c2 c3 c4 c5 cL cC
              go_wp2_with fail
              generalize W1.setCell ⟨A, 0, none⟩ (.int .i64 ((i : Int) + 1)) = W2 at hMs hKs ⊢
              replace hMs := Lib.hid hMs
              replace hKs := Lib.hid hKs
              clear cA fA

              go_loopw [6] (fun v6 wr => v6 = .int .i64 0 ∧ wr = W2) (fun _ _ => 0)
              case atStart => exact ⟨rfl, rfl⟩
              case round =>
                obtain ⟨rfl, rfl⟩ := hrel
                go_wp2_with fail
                go_ret
                exact ⟨true, i + 1, rfl, hMs, hlt, hKs, Lib.hid (by rw [hr.out]; rfl)⟩
            · have hd8 : d ≤ 8 := by omega
              clear hd1
              have hn1 : 0 < n := by omega
              go_enter Tryd.func13, Tryd.ntmps13
              go_wp2_with fail
              refine (hkd.out W).mono ?_
              rintro e W1 ⟨rfl, hb1⟩
              have hM1 := hM.out.later hb1.out
              have hMs := hM1.set (i + 1)
              have hKs := (Kx.of_below (b := A) hb1.out).set (.inl rfl) (.int .i64 ((i + 1 : Nat) : Int))
              rw [show ((i + 1 : Nat) : Int) = (i : Int) + 1 from rfl] at hMs hKs
              replace cA := hM1.ba.cell
              replace fA := hM1.ba.frozen
              clear hM hM1 hb1 hkd c0 c1 c2 c3 c4 c5 cL cC
              go_wp2_with fail
              generalize W1.setCell ⟨A, 0, none⟩ (.int .i64 ((i : Int) + 1)) = W2 at hMs hKs ⊢
              replace hMs := Lib.hid hMs
              replace hKs := Lib.hid hKs
              clear cA fA

              go_loopw [6] (fun v6 wr => ∃ (q j : Nat), v6 = .int .i64 q ∧ q ≤ 9223372036854775807 ∧ j ≤ ks.length ∧ i < j ∧ Hid (WholeMem wr B A L C ks (.slice (some ⟨b, o, none⟩) ks.length cap) j) ∧ Hid (Kx W A A wr) ∧ Hid (oneI ks (f + 1) i d = manyI (fun j => oneI ks f j (d + 1)) q j)) (fun v6 _ => (intOf v6).toNat)
              case atStart => exact ⟨n, i + 1, rfl, by omega, hlt, Nat.lt_succ_self _, hMs, hKs, hr⟩
              case round =>
                clear hMs hKs hr
                obtain ⟨q, j, rfl, hq9, hj, hij, hMr, hKr, hrr⟩ := hrel
                cases q with
                | zero =>
                  go_wp2_with fail
                  go_ret
                  exact ⟨true, j, rfl, hMr, hj, hKr, Lib.hid (by rw [hrr.out]; rfl)⟩
                | succ q =>
                  have hih := Lib.hid (ih.out j (d + 1) wr (by omega) hj (by omega) hMr.out)
                  have hrs : Hid (oneI ks (f + 1) i d = (oneI ks f j (d + 1)).bind (manyI (fun j => oneI ks f j (d + 1)) q)) := Lib.hid (by rw [hrr.out]; rfl)
                  have hgt := Lib.hid (fun j' (h : oneI ks f j (d + 1) = some j') => oneI_gt ks f j (d + 1) j' h)
                  have cC := hMr.out.bc.cell
                  clear hrr
                  go_wp2_with fail
                  refine hih.out.mono ?_
                  rintro e W3 ⟨ok, j', rfl, hM3, hj', hK3, ho3⟩
                  have hK4 := Lib.hid (hKr.out.trans hK3.out)
                  clear hih cC
                  cases ok
                  · have hrn : Hid (oneI ks (f + 1) i d = none) := Lib.hid (by rw [hrs.out, ho3.out]; rfl)
                    clear hrs ho3
                    go_wp2_with fail
                    go_ret
                    exact ⟨false, j', rfl, hM3, hj', hK4, Lib.hid (by rw [hrn.out]; rfl)⟩
                  · have hrn : Hid (oneI ks (f + 1) i d = manyI (fun j => oneI ks f j (d + 1)) q j') := Lib.hid (by rw [hrs.out, ho3.out]; rfl)
                    have hjj := (hgt.out j' (by rw [ho3.out]; rfl)).1
                    clear hrs ho3 hgt
                    go_wp2_with fail
                    go_roundw
                    case rel => exact ⟨q, j', by go_num, by omega, hj', by omega, hM3, hK4, hrn⟩
                    case measure => simp [intOf] <;> omega
    · have hr : Hid (oneI ks (f + 1) i d = none) := Lib.hid (by rw [oneI, List.getElem?_eq_none (by omega)])
      obtain ⟨ao, cap, rfl, _⟩ := hM.keys
      replace hM := Lib.hid hM
      clear ih hkd
      go_enter Tryd.func13, Tryd.ntmps13
      go_wp2_with fail
      go_ret
      exact ⟨false, i, rfl, hM, hi, Lib.hid (Kx.refl _ _ _), Lib.hid (by rw [hr.out]; rfl)⟩
end Go.Proofs.YtmlmkcpdgcojlaaDoor
