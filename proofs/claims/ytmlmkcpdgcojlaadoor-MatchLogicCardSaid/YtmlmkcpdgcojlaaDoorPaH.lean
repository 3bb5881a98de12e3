/- Field: the first field of a name; walked. -/
import Derived.Test.YtmlmkcpdgcojlaaDoorPaG
namespace Go.Proofs.YtmlmkcpdgcojlaaDoor
open Go.RowKit Go.Shelf
attribute [local go_sem] Oper.semAt_some

/-- what Field hands back -/
def FieldRet (M N : List UInt8) (w : World) (e : Ending) (w' : World) : Prop := ∃ u : ByteArray, e = .returned (.tuple #[.string u, .bool (fieldVal M N).isSome]) ∧ Hid (u.data.toList = (fieldVal M N).getD []) ∧ Hid (Below w.heap.size w w')
theorem fieldVal_none {M N : List UInt8} (h : ∀ p ∈ fieldsL M, upL p.1 ≠ upL N) : fieldVal M N = none := by
  rw [fieldVal, List.find?_eq_none.2 (fun p hp => by simpa using h p hp)]; rfl
theorem fieldVal_some {M N : List UInt8} {ini : List (List UInt8 × List UInt8)} {x : List UInt8 × List UInt8} (hp : ini ++ [x] <+: fieldsL M) (h : ∀ p ∈ ini, upL p.1 ≠ upL N) (hx : upL x.1 = upL N) : fieldVal M N = some x.2 := by
  obtain ⟨r, hr⟩ := hp
  rw [fieldVal, ← hr, List.append_assoc, List.find?_append, List.find?_eq_none.2 (fun p hp => by simpa using h p hp)]
  simp [hx]
theorem ne_up {a b : List UInt8} (ha : a ≠ b) : ((mkB a).toList == (mkB b).toList) = false := by
  rw [ByteArray.toList_eq, ByteArray.toList_eq, beq_eq_false_iff_ne]; exact ha
theorem keeps_below {B : Nat} {W W' : World} (h : Below W.heap.size W W') : KeepsFrom B W W' := ⟨h.size, fun k _ _ hk _ => (h.block k (Array.getElem?_eq_some_iff.1 hk).1).trans hk⟩
theorem keeps_set {B : Nat} {W W' : World} (h : KeepsFrom B W W') (a : Addr) (v : Value) : KeepsFrom B W (W'.setCell a v) := h.trans ((KeepsOthers.setCell _ _ _).from _)
theorem boxed_below {W W' : World} {B : Nat} {t : TypeId} {v : Value} (h : Boxed W B t v) (hb : Below W.heap.size W W') : Boxed W' B t v := (hb.block B h.lt).trans h
/-- Field's three boxes, from block b on: the name, the two results -/
def Boxes (W : World) (b : Nat) (N u : ByteArray) (ok : Bool) : Prop := Boxed W b 9 (.string N) ∧ Boxed W (b + 1) 9 (.string u) ∧ Boxed W (b + 2) 4 (.bool ok)
theorem Boxes.below {W W' : World} {b : Nat} {N u : ByteArray} {ok : Bool} (h : Boxes W b N u ok) (hb : Below W.heap.size W W') : Boxes W' b N u ok := ⟨boxed_below h.1 hb, boxed_below h.2.1 hb, boxed_below h.2.2 hb⟩
theorem Boxes.own {β : Type} (b : Nat) (N u : ByteArray) (ok : Bool) : Own (fun (_ : β) W => Boxes W b N u ok) := fun _ X Y row hs hg hr =>
  ⟨boxed_own (β := Unit) b _ (fun _ => _) () X Y row hs.1 hg hr, boxed_own (β := Unit) _ _ (fun _ => _) () X Y row hs.2.1 hg hr, boxed_own (β := Unit) _ _ (fun _ => _) () X Y row hs.2.2 hg hr⟩
/-- Upper, in a round: from a world in which nothing of W has turned -/
theorem upper_from (l n : Nat) (s : ByteArray) (hs : s.size ≤ maxLen) (W w : World) (hb : Below W.heap.size W w) :
    CallsIn (Fence.wide.inRound l) n Tryd.prog 30 #[.string s] w fun e w' => e = .returned (.string ⟨(upL s.data.toList).toArray⟩) ∧ Below W.heap.size W w' :=
  CallsIn.inRound l (callsIn_wide.2 ((upper_any s hs w).mono fun _ _ h => ⟨h.1, hb.trans (h.2.mono hb.size)⟩))
set_option maxRecDepth 100000 in
set_option maxHeartbeats 2000000 in
theorem field_any (s N : ByteArray) (hs : s.size ≤ 4194304) (hN : N.size ≤ 4194304) (m : Int) (w : World) (hm : w.cell? ⟨0, 0, none⟩ = some (.int .i64 m)) (h0 : 1 ≤ w.heap.size) :
    Calls Tryd.prog 24 #[.string s, .string N] w (FieldRet s.data.toList N.data.toList w) := by
  refine (callsIn_wide (n := 3)).1 ?_
  refine callsIn_of_wp_marks Tryd.func24 rfl trivial ?_ rfl
  simp only [Tryd.ntmps24, List.size_toArray, List.length_cons, List.length_nil, Nat.reduceAdd, Nat.reduceSub, Array.replicate_succ, Array.replicate_zero, List.push_toArray, List.append_toArray, List.nil_append, List.cons_append]
  gi_wp2
  refine ⟨trivial, (callsIn_wide.2 (fields_in _ _)).mono ?_⟩
  rintro e w1 ⟨rfl, rfl⟩
  gi_wp2
  generalize hW0 : ((((w.alloc (.cells #[.string N] 9)).alloc (.cells #[.string ⟨#[]⟩] 9)).alloc (.cells #[.bool false] 4)).alloc (.cells #[.string s] 9)) = W0
  have hsz : W0.heap.size = w.heap.size + 4 := by rw [← hW0]; simp
  have hB0 : Below w.heap.size w W0 := by
    rw [← hW0]
    exact ((((Below.refl _ w).alloc (Nat.le_refl _) _).alloc (by simp) _).alloc (by simp; omega) _).alloc (by simp; omega) _
  have hbx : Boxes W0 w.heap.size N ⟨#[]⟩ false := by
    rw [← hW0]
    have h1 := Boxed.new w 9 (.string N)
    have h2 := Boxed.new (w.alloc (.cells #[.string N] 9)) 9 (.string ⟨#[]⟩)
    have h3 := Boxed.new ((w.alloc (.cells #[.string N] 9)).alloc (.cells #[.string ⟨#[]⟩] 9)) 4 (.bool false)
    rw [World.size_alloc] at h2 h3
    rw [World.size_alloc] at h3
    exact ⟨((h1.alloc _).alloc _).alloc _, (h2.alloc _).alloc _, h3.alloc _⟩
  have hms : W0.cell? ⟨w.heap.size + 1 + 1 + 1, 0, none⟩ = some (.string s) := by
    rw [← hW0]
    have h4 := Boxed.new (((w.alloc (.cells #[.string N] 9)).alloc (.cells #[.string ⟨#[]⟩] 9)).alloc (.cells #[.bool false] 4)) 9 (.string s)
    rw [World.size_alloc, World.size_alloc, World.size_alloc] at h4
    exact h4.cell
  have hm0 : W0.cell? ⟨0, 0, none⟩ = some (.int .i64 m) := (hB0.cell (p := ⟨0, 0, none⟩) (by show 0 < _; omega)).trans hm
  clear hW0
  have hst := fields_stops 2 (by decide) W0.heap.size (w.heap.size + 1 + 1 + 1) s hs m W0 (Nat.le_refl _) (by omega) (by omega) hm0 hms
  refine wpIn_rangeFunc_ownG rfl (by decide) (gf := 36) (lb := #[.pointer (some ⟨w.heap.size + 1 + 1 + 1, 0, none⟩)]) rfl trivial (enters_of Tryd.func36 (by kernel_rfl) rfl)
    hst (fun h k => h.trans k) (fun W l o o' => KpC.put (by omega) W l o o') (Below.refl _ _) (fun _ => rfl)
    (fun pre W => ((∀ p ∈ vals pre, upL p.1 ≠ upL N.data.toList) ∧ Boxes W w.heap.size N ⟨#[]⟩ false) ∧ Below w.heap.size w W)
    (fun c pre W => (c = .ret ∧ ∃ ini, ∃ last : Fld, vals pre = vals ini ++ [last.1] ∧ (∀ p ∈ vals ini, upL p.1 ≠ upL N.data.toList) ∧ upL last.1.1 = upL N.data.toList ∧ Boxes W w.heap.size N (mkB last.1.2) true) ∧ Below w.heap.size w W)
    (OwnFrom.and (Own.from (fun s A B row hs hg hr => ⟨hs.1, Boxes.own (β := Unit) _ _ _ _ () A B row hs.2 hg hr⟩) _) (ownFrom_below (Nat.le_refl _) (by omega)))
    (fun c => OwnFrom.and (Own.from (fun s A B row hs hg hr => by obtain ⟨hc, ini, last, e1, e2, e3, e4⟩ := hs; exact ⟨hc, ini, last, e1, e2, e3, Boxes.own (β := Unit) _ _ _ _ () A B row e4 hg hr⟩) _) (ownFrom_below (Nat.le_refl _) (by omega)))
    ⟨⟨by simp [vals], hbx⟩, hB0⟩
    (fun x => { tmps := #[.string s, .string N, undef, .pointer (some ⟨w.heap.size, 0, none⟩), .pointer (some ⟨w.heap.size + 1, 0, none⟩), .pointer (some ⟨w.heap.size + 1 + 1, 0, none⟩), encStr x.1.1, encStr x.1.2, .string s, .func (.func 36) #[] #[.pointer (some ⟨w.heap.size + 1 + 1 + 1, 0, none⟩)], encStr x.1.1, encStr x.1.2, undef, undef, undef, undef, undef, undef], defers := [] }) ?assign ?body ?done ?stop
  case assign =>
    intro l x W K hK
    simp only [encF]
    gi_wp2
    exact hK
  case body =>
    rintro l pre x W ⟨⟨hp, hb⟩, hB⟩ _
    have e1 : ∀ l, encStr l = .string (mkB l) := fun _ => rfl
    have hxl := x.2.1
    have hX : (mkB x.1.1).size ≤ maxLen := by show x.1.1.length ≤ _; unfold maxLen; omega
    have hN' : N.size ≤ maxLen := by unfold maxLen; omega
    have hmx : Tryd.prog.follows .mixedOrders = true := by kernel_rfl
    have hcN : ∀ w', Below W.heap.size W w' → w'.cell? ⟨w.heap.size, 0, none⟩ = some (.string N) := fun w' h => (boxed_below hb.1 h).cell
    obtain ⟨U, hU⟩ : ∃ U : ByteArray → ByteArray, ∀ Z, U Z = mkB (upL Z.data.toList) := ⟨_, fun _ => rfl⟩
    have hup : ∀ Z : ByteArray, Z.size ≤ maxLen → ∀ w', Below W.heap.size W w' → CallsIn (Fence.wide.inRound l) (3 - 1 - 1 - 1) Tryd.prog 30 #[.string Z] w' fun e w'' => e = .returned (.string (U Z)) ∧ Below W.heap.size W w'' := fun Z hZ w' h => by
      rw [hU]; exact upper_from l (3 - 1 - 1 - 1) Z hZ W w' h
    have hq : ((U (mkB x.1.1)).toList == (U N).toList) = decide (upL x.1.1 = upL N.data.toList) := by
      rw [hU, hU, mkB_list]
      by_cases h : upL x.1.1 = upL N.data.toList
      · rw [h, decide_eq_true rfl, beq_iff_eq]
      · rw [decide_eq_false h]; exact ne_up h
    clear hU
    simp only [e1]
    generalize mkB x.1.1 = X at hX hq ⊢
    have hxv : vals (pre ++ [x]) = vals pre ++ [x.1] := by rw [vals, List.map_append]; rfl
    by_cases hu : upL x.1.1 = upL N.data.toList
    · rw [decide_eq_true hu] at hq
      replace hu := Lib.hid hu
      have hbd : Below W.heap.size W W.drew := Below.drew (Below.refl _ W)
      have hcd := hcN _ hbd
      gi_wp2
      gi_region_with_o (refine ⟨trivial, ?_⟩; gi_at_call 30; refine (hup _ (by assumption) _ (by assumption)).mono ?_; rintro e w4 ⟨rfl, hb4⟩; have hc4 := hcN w4 hb4)
      all_goals (
        have hx4 := hb.below hb4
        have hB4 := hB.trans (hb4.mono hB.size)
        have c1 := hx4.2.1.cell
        have f1 := hx4.2.1.frozen
        have c2 := hx4.2.2.cell
        have f2 := hx4.2.2.frozen
        gi_wp2
        refine ⟨keeps_set (keeps_set (keeps_below hb4) _ _) _ _, ⟨rfl, pre, x, hxv, hp, hu.out, (hx4.1.other (by omega) _).other (by omega) _, (hx4.2.1.set _).other (by omega) _, (hx4.2.2.other (by omega) _).set _⟩, ?_⟩
        exact (hB4.setCell (p := ⟨w.heap.size + 1, 0, none⟩) (by simp) _).setCell (p := ⟨w.heap.size + 1 + 1, 0, none⟩) (by simp; omega) _)
    · rw [decide_eq_false hu] at hq
      have hpn : ∀ p ∈ vals (pre ++ [x]), upL p.1 ≠ upL N.data.toList := by
        rw [hxv]
        intro p hp'
        rcases List.mem_append.1 hp' with h | h
        · exact hp p h
        · obtain rfl : p = x.1 := by simpa using h
          exact hu
      replace hu := Lib.hid hu
      have hbd : Below W.heap.size W W.drew := Below.drew (Below.refl _ W)
      have hcd := hcN _ hbd
      gi_wp2
      gi_region_with_o (refine ⟨trivial, ?_⟩; gi_at_call 30; refine (hup _ (by assumption) _ (by assumption)).mono ?_; rintro e w4 ⟨rfl, hb4⟩; have hc4 := hcN w4 hb4)
      all_goals (
        have hx4 := hb.below hb4
        have hB4 := hB.trans (hb4.mono hB.size)
        gi_wp2
        exact ⟨keeps_below hb4, (KpC.refl _ _).below hb4 (by have := hB.size; omega), ⟨hpn, hx4⟩, hB4⟩)
  case done =>
    rintro D ys W hD hys ⟨⟨hp, hb⟩, hB⟩ hK
    have c1 := hb.2.1.cell
    have f1 := hb.2.1.frozen
    have c2 := hb.2.2.cell
    have f2 := hb.2.2.frozen
    gi_wp2
    have hx4 : Boxes ((W.setCell ⟨w.heap.size + 1, 0, none⟩ (.string ⟨#[]⟩)).setCell ⟨w.heap.size + 1 + 1, 0, none⟩ (.bool false)) w.heap.size N ⟨#[]⟩ false := ⟨(hb.1.other (by omega) _).other (by omega) _, (hb.2.1.set _).other (by omega) _, (hb.2.2.other (by omega) _).set _⟩
    have hB4 : Below w.heap.size w ((W.setCell ⟨w.heap.size + 1, 0, none⟩ (.string ⟨#[]⟩)).setCell ⟨w.heap.size + 1 + 1, 0, none⟩ (.bool false)) := (hB.setCell (p := ⟨w.heap.size + 1, 0, none⟩) (by simp) _).setCell (p := ⟨w.heap.size + 1 + 1, 0, none⟩) (by simp; omega) _
    have hK4 := ((KeepsOthers.setCell W ⟨w.heap.size + 1, 0, none⟩ (.string ⟨#[]⟩)).trans (KeepsOthers.setCell _ ⟨w.heap.size + 1 + 1, 0, none⟩ (.bool false))).same D _ hK rfl
    generalize (W.setCell ⟨w.heap.size + 1, 0, none⟩ (.string ⟨#[]⟩)).setCell ⟨w.heap.size + 1 + 1, 0, none⟩ (.bool false) = W4 at hx4 hB4 hK4 ⊢
    refine ⟨by simp, .inl ⟨_, _, rfl, run_takeDeferred hK4, ?_⟩⟩
    have hx5 := Boxes.own (β := Unit) _ _ _ _ () _ _ _ hx4 (grownBy_putObj' _ D (.deferred none)) (fun r e => by cases e; exact ⟨_, hK4, rfl⟩)
    have c5 := hx5.2.1.cell
    have c6 := hx5.2.2.cell
    have hfv := fieldVal_none (M := s.data.toList) (N := N.data.toList) (by rw [← hys]; exact hp)
    refine ⟨_, ?_, ⟨#[]⟩, rfl, Lib.hid (by rw [hfv]; rfl), Lib.hid (hB4.trans (belowK_b (w := w) (Nat.le_refl _) _ D _ _ (by omega) hK4 rfl rfl))⟩
    rw [hfv]
    simp [results, Tryd.f24, go_sem, c5, c6]
  case stop =>
    rintro D c pre W hD hpre ⟨⟨rfl, ini, last, hv, hp, hu, hb⟩, hB⟩ hK
    gi_wp2
    refine ⟨by simp, .inl ⟨_, _, rfl, run_takeDeferred hK, ?_⟩⟩
    have hx5 := Boxes.own (β := Unit) _ _ _ _ () _ _ _ hb (grownBy_putObj' _ D (.deferred none)) (fun r e => by cases e; exact ⟨_, hK, rfl⟩)
    have c5 := hx5.2.1.cell
    have c6 := hx5.2.2.cell
    have hfv := fieldVal_some (M := s.data.toList) (N := N.data.toList) (x := last.1) (by rw [← hv]; exact hpre) hp hu
    refine ⟨_, ?_, mkB last.1.2, rfl, Lib.hid (by rw [hfv]; rfl), Lib.hid (hB.trans (belowK_b (w := w) (Nat.le_refl _) _ D _ _ (by omega) hK rfl rfl))⟩
    rw [hfv]
    simp [results, Tryd.f24, go_sem, c5, c6]
end Go.Proofs.YtmlmkcpdgcojlaaDoor
