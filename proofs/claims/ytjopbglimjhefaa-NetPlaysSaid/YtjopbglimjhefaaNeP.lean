/- A net as a thing among others; what its calls do to it. -/
import Derived.Test.YtjopbglimjhefaaNeO
import Derived.Test.YtjopbglimjhefaaSep
namespace Go.Proofs.Ytjopbglimjhefaa
open Go.RowKit Go.Maps Go.WideMaps

/-- how a net stands -/
structure Ns where
  l : List Pk
  now : Nat
  last : Nat
  N : Nat
  C : Int → Int → Bool
def netFoot (b m : Nat) (v : Value) : Foot := fun k => k = b ∨ k = m ∨ v.ownBlock = some k
def netT (b : Nat) (s : Ns) : Th := ⟨fun F W => ∃ m v l, NetAt W b m v l s.now s.last s.N s.C ∧ Heap l l.length ∧ l.Perm s.l ∧ ∀ k, F k ↔ netFoot b m v k,
  fun F W h k hk => by
    obtain ⟨m, v, l, hn, _, _, hF⟩ := h
    obtain ⟨D, hm, _⟩ := hn.map
    rcases (hF k).1 hk with rfl | rfl | h
    · exact hn.fl.lt
    · exact hm.lt
    · exact hn.fl.2.2.1.lt h,
  fun F W W' h hk => by
    obtain ⟨m, v, l, hn, hh, hp, hF⟩ := h
    exact ⟨m, v, l, hn.same (fun k h => hk k ((hF k).2 h)), hh, hp, hF⟩⟩
theorem grows_net {W W' : World} {b m : Nat} {v v' : Value} {F : Foot} (hF : ∀ k, F k ↔ netFoot b m v k) (h : NSame W b m v W') (hl : Later W v v') : Grows F W (netFoot b m v') W' :=
  ⟨h.os, h.tape, h.output, h.size, fun k hk hn => h.block k hk (fun e => hn ((hF k).2 (.inl e))) (fun e => hn ((hF k).2 (.inr (.inl e)))) (fun e => hn ((hF k).2 (.inr (.inr e)))), fun k hk => by
    rcases hk with e | e | e
    · exact .inl ((hF k).2 (.inl e))
    · exact .inl ((hF k).2 (.inr (.inl e)))
    · rcases hl k e with q | q
      · exact .inl ((hF k).2 (.inr (.inr q)))
      · exact .inr q⟩
theorem NextR.perm {now : Nat} {C : Int → Int → Bool} {l : List Pk} {r : Option Pk} {l' : List Pk} (h : NextR now C l r l') : ∀ {l2 : List Pk}, l.Perm l2 → ∃ l3, l'.Perm l3 ∧ NextR now C l2 r l3 := by
  induction h with
  | none l h => intro l2 hp; exact ⟨l2, hp, .none l2 (fun q hq => h q (hp.mem_iff.2 hq))⟩
  | take p l l' h1 h2 h3 h4 => intro l2 hp; exact ⟨l', List.Perm.refl _, .take p l2 l' (h1.trans hp) (fun q hq => h2 q (hp.mem_iff.2 hq)) h3 h4⟩
  | drop p l l1 r l' h1 h2 h3 h4 _ ih =>
    intro l2 hp
    obtain ⟨l3, h5, h6⟩ := ih (List.Perm.refl _)
    exact ⟨l3, h5, .drop p l2 l1 r l3 (h1.trans hp) (fun q hq => h2 q (hp.mem_iff.2 hq)) h3 h4 h6⟩
def sent1 (s : Ns) (x y : Int) (t : ByteArray) (d : Int) : Int × Int × Ns := (((s.last + 1 : Nat) : Int), 0, (⟨⟨(s.last + 1 : Nat), x, y, t, s.now + d⟩ :: s.l, s.now, s.last + 1, s.N, s.C⟩ : Ns))
/-- what Send says and does -/
def sendS (s : Ns) (x y : Int) (t : ByteArray) (d : Int) : Int × Int × Ns :=
  if sendOk x y d = true then
    if s.l.length < 512 then sent1 s x y t d else (0, 7, s)
  else (0, 1, s)
variable {W0 W : World} {L : List Th}
theorem send_zoo (h : Zoo W0 W L) (i b : Nat) (s : Ns) (hi : L[i]? = some (netT b s)) (hnow : s.now < 1000000) (hlast : s.last < 1000000) (hl : s.l.length ≤ 512) (x y : Int) (t : ByteArray) (d : Int) :
    Calls Try.prog 18 #[.pointer (some ⟨b, 0, none⟩), .int .i64 x, .int .i64 y, .string t, .int .i64 d] W fun e w' =>
      e = .returned (.tuple #[.int .i64 (sendS s x y t d).1, .int .i64 (sendS s x y t d).2.1]) ∧ Zoo W0 w' (L.set i (netT b (sendS s x y t d).2.2)) := by
  obtain ⟨F, ⟨m, v, l, hn, hh, hp, hF⟩, hlow, hact⟩ := h.act i _ hi
  have hlen := hp.length_eq
  refine (send_any b m v l s.now s.last s.N s.C x y t d hnow hlast W hn hh (by omega)).mono ?_
  intro e w' hr
  rcases hr with ⟨h1, h2, h3⟩ | ⟨h1, h2, h3, h4⟩ | ⟨h1, h2, h3, v', l', h4, h5, h6⟩
  · have e1 : sendS s x y t d = (0, 1, s) := by unfold sendS; rw [h1]; rfl
    rw [e1]
    exact ⟨h2, hact _ F w' ((netT b s).below ⟨m, v, l, hn, hh, hp, hF⟩ h3.out) (Grows.of_below h3.out)⟩
  · have e1 : sendS s x y t d = (0, 7, s) := by unfold sendS; rw [if_pos h1, if_neg (by omega)]
    rw [e1]
    exact ⟨h3, hact _ F w' ((netT b s).below ⟨m, v, l, hn, hh, hp, hF⟩ h4.out) (Grows.of_below h4.out)⟩
  · have e1 : sendS s x y t d = sent1 s x y t d := by unfold sendS; rw [if_pos h1, if_pos (by omega)]
    rw [e1]
    exact ⟨h3, hact _ (netFoot b m v') w' ⟨m, v', l', h4.out, h5.out.2, h5.out.1.trans (hp.cons _), fun _ => Iff.rfl⟩ (grows_net hF h6.out.1 h6.out.2)⟩
def tickS (s : Ns) : Ns := ⟨s.l, s.now + 1, s.last, s.N, s.C⟩
theorem tick_zoo (h : Zoo W0 W L) (i b : Nat) (s : Ns) (hi : L[i]? = some (netT b s)) (hnow : s.now < 1000000) :
    Calls Try.prog 15 #[.pointer (some ⟨b, 0, none⟩)] W fun e w' => e = .returned (.tuple #[]) ∧ Zoo W0 w' (L.set i (netT b (tickS s))) := by
  obtain ⟨F, ⟨m, v, l, hn, hh, hp, hF⟩, hlow, hact⟩ := h.act i _ hi
  refine (tick_any b m v l s.now s.last s.N s.C hnow W hn).mono ?_
  rintro e w' ⟨h1, h2, h3⟩
  exact ⟨h1, hact _ (netFoot b m v) w' ⟨m, v, l, h2.out, hh, hp, fun _ => Iff.rfl⟩ (grows_net hF h3.out (Later.refl _ _))⟩
theorem now_zoo (h : Zoo W0 W L) (i b : Nat) (s : Ns) (hi : L[i]? = some (netT b s)) :
    Calls Try.prog 14 #[.pointer (some ⟨b, 0, none⟩)] W fun e w' => e = .returned (.int .i64 s.now) ∧ w' = W := by
  obtain ⟨F, ⟨m, v, l, hn, hh, hp, hF⟩, hlow, hact⟩ := h.act i _ hi
  exact now_any b m v l s.now s.last s.N s.C W hn
def withL (s : Ns) (l : List Pk) : Ns := ⟨l, s.now, s.last, s.N, s.C⟩
theorem next_zoo (h : Zoo W0 W L) (i b : Nat) (s : Ns) (hi : L[i]? = some (netT b s)) (hl : s.l.length ≤ 512) (hg : Good s.l) :
    Calls Try.prog 13 #[.pointer (some ⟨b, 0, none⟩)] W fun e w' => ∃ (r : Option Pk) (l2 : List Pk), e = .returned (.tuple #[.agg (pkArr (r.getD Pk.zero)), .bool r.isSome]) ∧ Hid (NextR s.now s.C s.l r l2) ∧ Zoo W0 w' (L.set i (netT b (withL s l2))) := by
  obtain ⟨F, ⟨m, v, l, hn, hh, hp, hF⟩, hlow, hact⟩ := h.act i _ hi
  have hlen := hp.length_eq
  refine (next_any b m v l s.now s.last s.N s.C W hn hh (by omega) (fun q hq => hg q (hp.mem_iff.1 hq))).mono ?_
  rintro e w' ⟨r, v', l', h1, h2, h3, h4⟩
  obtain ⟨l3, h5, h6⟩ := h3.out.perm hp
  exact ⟨r, l3, h1, Lib.hid h6, hact _ (netFoot b m v') w' ⟨m, v', l', h2.out.1, h2.out.2, h5, fun _ => Iff.rfl⟩ (grows_net hF h4.out.1 h4.out.2)⟩
/-- what Lose says and does -/
def LoseS (s : Ns) (id : Int) (e : Int) (s' : Ns) : Prop := ((∀ q ∈ s.l, q.id ≠ id) ∧ e = 6 ∧ s' = s) ∨ ∃ p l2, p.id = id ∧ (p :: l2).Perm s.l ∧ e = 0 ∧ s' = withL s l2
theorem lose_zoo (h : Zoo W0 W L) (i b : Nat) (s : Ns) (hi : L[i]? = some (netT b s)) (hl : s.l.length ≤ 512) (id : Int) :
    Calls Try.prog 20 #[.pointer (some ⟨b, 0, none⟩), .int .i64 id] W fun e w' => ∃ (x : Int) (s' : Ns), e = .returned (.int .i64 x) ∧ Hid (LoseS s id x s') ∧ Zoo W0 w' (L.set i (netT b s')) := by
  obtain ⟨F, ⟨m, v, l, hn, hh, hp, hF⟩, hlow, hact⟩ := h.act i _ hi
  have hlen := hp.length_eq
  refine (lose_any b m v l s.now s.last s.N s.C id (by omega) W hn hh).mono ?_
  intro e w' hr
  rcases hr with ⟨h1, h2, h3⟩ | ⟨p, v', l', h1, h2, h3, h4, h5⟩
  · exact ⟨6, s, h2, Lib.hid (.inl ⟨fun q hq => h1 q (hp.mem_iff.2 hq), rfl, rfl⟩), hact _ F w' ((netT b s).below ⟨m, v, l, hn, hh, hp, hF⟩ h3.out) (Grows.of_below h3.out)⟩
  · exact ⟨0, withL s l', h2, Lib.hid (.inr ⟨p, l', h1, h4.out.trans hp, rfl, rfl⟩), hact _ (netFoot b m v') w' ⟨m, v', l', h3.out.1, h3.out.2, List.Perm.refl _, fun _ => Iff.rfl⟩ (grows_net hF h5.out.1 h5.out.2)⟩
theorem set_perm (l : List Pk) (i : Nat) (hi : i < l.length) : ∃ l2, (pat l i :: l2).Perm l ∧ ∀ p, (p :: l2).Perm (l.set i p) := by
  refine ⟨l.take i ++ l.drop (i + 1), ?_, fun p => ?_⟩
  · have e : l = l.take i ++ pat l i :: l.drop (i + 1) := by rw [pat_lt hi, ← List.drop_eq_getElem_cons, List.take_append_drop]
    calc (pat l i :: (l.take i ++ l.drop (i + 1))).Perm (l.take i ++ pat l i :: l.drop (i + 1)) := List.perm_middle.symm
      _ = l := e.symm
  · rw [List.set_eq_take_append_cons_drop, if_pos hi]
    exact List.perm_middle.symm
def LateS (s : Ns) (id d : Int) (e : Int) (s' : Ns) : Prop := ((∀ q ∈ s.l, q.id ≠ id) ∧ e = 6 ∧ s' = s) ∨ ((∃ p ∈ s.l, p.id = id) ∧ ¬ (0 ≤ d ∧ d ≤ 100) ∧ e = 1 ∧ s' = s) ∨ ((0 ≤ d ∧ d ≤ 100) ∧ ∃ p l2, p.id = id ∧ (p :: l2).Perm s.l ∧ e = 0 ∧ s' = withL s (p.at_ (s.now + d) :: l2))
theorem late_zoo (h : Zoo W0 W L) (i b : Nat) (s : Ns) (hi : L[i]? = some (netT b s)) (hnow : s.now < 1000000) (hl : s.l.length ≤ 512) (id d : Int) :
    Calls Try.prog 21 #[.pointer (some ⟨b, 0, none⟩), .int .i64 id, .int .i64 d] W fun e w' => ∃ (x : Int) (s' : Ns), e = .returned (.int .i64 x) ∧ Hid (LateS s id d x s') ∧ Zoo W0 w' (L.set i (netT b s')) := by
  obtain ⟨F, ⟨m, v, l, hn, hh, hp, hF⟩, hlow, hact⟩ := h.act i _ hi
  have hlen := hp.length_eq
  refine (late_any b m v l s.now s.last s.N s.C id d hnow (by omega) W hn hh).mono ?_
  intro e w' hr
  rcases hr with ⟨h1, h2, h3⟩ | ⟨⟨j, hj, h1⟩, h2, h3, h4⟩ | ⟨h1, j, l', hj, h2, h3, h4, h5, h6⟩
  · exact ⟨6, s, h2, Lib.hid (.inl ⟨fun q hq => h1 q (hp.mem_iff.2 hq), rfl, rfl⟩), hact _ F w' ((netT b s).below ⟨m, v, l, hn, hh, hp, hF⟩ h3.out) (Grows.of_below h3.out)⟩
  · exact ⟨1, s, h3, Lib.hid (.inr (.inl ⟨⟨pat l j, hp.mem_iff.1 (by rw [pat_lt hj]; exact List.getElem_mem hj), h1⟩, h2, rfl, rfl⟩)), hact _ F w' ((netT b s).below ⟨m, v, l, hn, hh, hp, hF⟩ h4.out) (Grows.of_below h4.out)⟩
  · obtain ⟨l2, g1, g2⟩ := set_perm l j hj
    exact ⟨0, withL s ((pat l j).at_ (s.now + d) :: l2), h3, Lib.hid (.inr (.inr ⟨h1, pat l j, l2, h2, g1.trans hp, rfl, rfl⟩)), hact _ (netFoot b m v) w' ⟨m, v, l', h4.out.1, h4.out.2, h5.out.trans (g2 _).symm, fun _ => Iff.rfl⟩ (grows_net hF h6.out (Later.refl _ _))⟩
def DoubleS (s : Ns) (id d : Int) (r : Int × Int × Ns) : Prop := ((∀ q ∈ s.l, q.id ≠ id) ∧ r = (0, 6, s)) ∨ ∃ p ∈ s.l, p.id = id ∧ r = sendS s p.src p.dst p.data d
theorem double_zoo (h : Zoo W0 W L) (i b : Nat) (s : Ns) (hi : L[i]? = some (netT b s)) (hnow : s.now < 1000000) (hlast : s.last < 1000000) (hl : s.l.length ≤ 512) (id d : Int) :
    Calls Try.prog 19 #[.pointer (some ⟨b, 0, none⟩), .int .i64 id, .int .i64 d] W fun e w' => ∃ r : Int × Int × Ns, e = .returned (.tuple #[.int .i64 r.1, .int .i64 r.2.1]) ∧ Hid (DoubleS s id d r) ∧ Zoo W0 w' (L.set i (netT b r.2.2)) := by
  obtain ⟨F, ⟨m, v, l, hn, hh, hp, hF⟩, hlow, hact⟩ := h.act i _ hi
  have hlen := hp.length_eq
  refine (double_any b m v l s.now s.last s.N s.C id d hnow hlast (by omega) W hn hh).mono ?_
  intro e w' hr
  rcases hr with ⟨h1, h2, h3⟩ | ⟨j, hj, hid, hr⟩
  · exact ⟨(0, 6, s), h2, Lib.hid (.inl ⟨fun q hq => h1 q (hp.mem_iff.2 hq), rfl⟩), hact _ F w' ((netT b s).below ⟨m, v, l, hn, hh, hp, hF⟩ h3.out) (Grows.of_below h3.out)⟩
  · have hm : pat l j ∈ s.l := hp.mem_iff.1 (by rw [pat_lt hj]; exact List.getElem_mem hj)
    refine ⟨sendS s (pat l j).src (pat l j).dst (pat l j).data d, ?_, Lib.hid (.inr ⟨_, hm, hid, rfl⟩), ?_⟩
    all_goals generalize (pat l j).src = x at hr ⊢; generalize (pat l j).dst = y at hr ⊢; generalize (pat l j).data = t at hr ⊢
    all_goals rcases hr with ⟨h1, h2, h3⟩ | ⟨h1, h2, h3, h4⟩ | ⟨h1, h2, h3, v', l', h4, h5, h6⟩
    · rw [show sendS s x y t d = (0, 1, s) by unfold sendS; rw [h1]; rfl]; exact h2
    · rw [show sendS s x y t d = (0, 7, s) by unfold sendS; rw [if_pos h1, if_neg (by omega)]]; exact h3
    · rw [show sendS s x y t d = sent1 s x y t d by unfold sendS; rw [if_pos h1, if_pos (by omega)]]; exact h3
    · rw [show sendS s x y t d = (0, 1, s) by unfold sendS; rw [h1]; rfl]; exact hact _ F w' ((netT b s).below ⟨m, v, l, hn, hh, hp, hF⟩ h3.out) (Grows.of_below h3.out)
    · rw [show sendS s x y t d = (0, 7, s) by unfold sendS; rw [if_pos h1, if_neg (by omega)]]; exact hact _ F w' ((netT b s).below ⟨m, v, l, hn, hh, hp, hF⟩ h4.out) (Grows.of_below h4.out)
    · rw [show sendS s x y t d = sent1 s x y t d by unfold sendS; rw [if_pos h1, if_pos (by omega)]]
      exact hact _ (netFoot b m v') w' ⟨m, v', l', h4.out, h5.out.2, h5.out.1.trans (hp.cons _), fun _ => Iff.rfl⟩ (grows_net hF h6.out.1 h6.out.2)
def cutS (s : Ns) (x y : Int) (c : Bool) : Int × Ns := if linkB x y = true then (0, ⟨s.l, s.now, s.last, s.N + 1, setC s.C (lo x y) (hi x y) c⟩) else (1, s)
theorem cut_zoo (h : Zoo W0 W L) (i b : Nat) (s : Ns) (hi : L[i]? = some (netT b s)) (hN : s.N < 1000000) (x y : Int) (c : Bool) :
    Calls Try.prog 11 #[.pointer (some ⟨b, 0, none⟩), .int .i64 x, .int .i64 y, .bool c] W fun e w' => e = .returned (.int .i64 (cutS s x y c).1) ∧ Zoo W0 w' (L.set i (netT b (cutS s x y c).2)) := by
  obtain ⟨F, ⟨m, v, l, hn, hh, hp, hF⟩, hlow, hact⟩ := h.act i _ hi
  refine (cut_any b m v l s.now s.last s.N s.C x y c hN W hn).mono ?_
  intro e w' hr
  unfold cutS
  rcases hr with ⟨h1, h2, h3⟩ | ⟨h1, h2, h3, h4⟩
  · rw [if_neg (by rw [h1]; decide)]
    exact ⟨h2, hact _ F w' ((netT b s).below ⟨m, v, l, hn, hh, hp, hF⟩ h3.out) (Grows.of_below h3.out)⟩
  · rw [if_pos h1]
    exact ⟨h2, hact _ (netFoot b m v) w' ⟨m, v, l, h3.out, hh, hp, fun _ => Iff.rfl⟩ (grows_net hF h4.out (Later.refl _ _))⟩
def Ns.new : Ns := ⟨[], 0, 0, 0, fun _ _ => false⟩
theorem new_zoo (h : Zoo W0 W L) : Calls Try.prog 10 #[] W fun e w' => ∃ b, e = .returned (.pointer (some ⟨b, 0, none⟩)) ∧ Zoo W0 w' (netT b Ns.new :: L) := by
  refine (new_any W).mono ?_
  rintro e w' ⟨b, m, h1, h2, h3, h4, h5⟩
  refine ⟨b, h1, h.more h3.out _ (netFoot b m (.slice none 0 0)) ⟨m, .slice none 0 0, [], h2.out, fun p c hc hn => absurd hn (by simp), List.Perm.refl _, fun _ => Iff.rfl⟩ (fun k hk => ?_)⟩
  rcases hk with rfl | rfl | e
  · exact h4
  · exact h5
  · simp [Value.ownBlock] at e
/-! a net that is none -/
theorem tick_nil (W : World) : Calls Try.prog 15 #[.pointer none] W fun e w' => e = .returned (.tuple #[]) ∧ w' = W := by
  go_enter Try.func15, Try.ntmps15
  go_wp2_with fail
  go_end0
  exact ⟨rfl, rfl⟩
theorem now_nil (W : World) : Calls Try.prog 14 #[.pointer none] W fun e w' => e = .returned (.int .i64 0) ∧ w' = W := by
  go_enter Try.func14, Try.ntmps14
  go_wp2_with fail
  go_ret
  exact ⟨rfl, rfl⟩
theorem all_nil (W : World) : Calls Try.prog 12 #[.pointer none] W fun e w' => e = .returned (.slice none 0 0) ∧ w' = W := by
  go_enter Try.func12, Try.ntmps12
  go_wp2_with fail
  go_ret
  exact ⟨rfl, rfl⟩
theorem at_nil (id : Int) (W : World) : Calls Try.prog 34 #[.pointer none, .int .i64 id] W fun e w' => e = .returned (.int .i64 (-1)) ∧ Hid (Below W.heap.size W w') := by
  go_enter Try.func34, Try.ntmps34
  go_wp2_with fail
  go_ret
  exact ⟨rfl, Lib.hid ((Below.refl _ _).alloc (Nat.le_refl _) _)⟩
theorem missing_nil (W : World) : Calls Try.prog 35 #[.pointer none] W fun e w' => e = .returned (.int .i64 1) ∧ w' = W := by
  go_enter Try.func35, Try.ntmps35
  go_wp2_with fail
  go_ret
  exact ⟨rfl, rfl⟩
theorem lose_nil (id : Int) (W : World) : Calls Try.prog 20 #[.pointer none, .int .i64 id] W fun e w' => e = .returned (.int .i64 1) ∧ Hid (Below W.heap.size W w') := by
  have hat := Lib.hid (at_nil id W)
  have hm := Lib.hid missing_nil
  go_enter Try.func20, Try.ntmps20
  go_wp2_with fail
  refine hat.out.mono ?_
  rintro e w1 ⟨rfl, hb⟩
  go_wp2_with fail
  refine (hm.out w1).mono ?_
  rintro e w2 ⟨rfl, rfl⟩
  go_wp2_with fail
  go_ret
  exact ⟨rfl, hb⟩
theorem late_nil (id d : Int) (W : World) : Calls Try.prog 21 #[.pointer none, .int .i64 id, .int .i64 d] W fun e w' => e = .returned (.int .i64 1) ∧ Hid (Below W.heap.size W w') := by
  have hat := Lib.hid (at_nil id W)
  have hm := Lib.hid missing_nil
  go_enter Try.func21, Try.ntmps21
  go_wp2_with fail
  refine hat.out.mono ?_
  rintro e w1 ⟨rfl, hb⟩
  go_wp2_with fail
  refine (hm.out w1).mono ?_
  rintro e w2 ⟨rfl, rfl⟩
  go_wp2_with fail
  go_ret
  exact ⟨rfl, hb⟩
theorem double_nil (id d : Int) (W : World) : Calls Try.prog 19 #[.pointer none, .int .i64 id, .int .i64 d] W fun e w' => e = .returned (.tuple #[.int .i64 0, .int .i64 1]) ∧ Hid (Below W.heap.size W w') := by
  have hat := Lib.hid (at_nil id W)
  have hm := Lib.hid missing_nil
  go_enter Try.func19, Try.ntmps19
  go_wp2_with fail
  refine hat.out.mono ?_
  rintro e w1 ⟨rfl, hb⟩
  go_wp2_with fail
  refine (hm.out w1).mono ?_
  rintro e w2 ⟨rfl, rfl⟩
  go_wp2_with fail
  go_ret2
  exact ⟨rfl, hb⟩
set_option maxRecDepth 100000 in
set_option maxHeartbeats 4000000 in
theorem next_nil (W : World) : Calls Try.prog 13 #[.pointer none] W fun e w' => e = .returned (.tuple #[.agg (pkArr Pk.zero), .bool false]) ∧ Hid (Below W.heap.size W w') := by
  go_enter Try.func13, Try.ntmps13
  go_wp2_with fail
  go_loopw [3] (fun v3 wr => v3 = .bool false ∧ PkAt wr W.heap.size Pk.zero ∧ Hid (Below W.heap.size W wr)) (fun _ _ => 0)
  case atStart => exact ⟨rfl, heap_alloc_new W _, Lib.hid ((Below.refl _ _).alloc (Nat.le_refl _) _)⟩
  case round =>
    obtain ⟨rfl, hP, hb⟩ := hrel
    have hP2 := (hP.putB Pk.zero)
    have hB2 := (hb.out.trans (((((Below.refl W.heap.size wr).setCell (p := ⟨W.heap.size, 0, none⟩) (Nat.le_refl _) (.int .i64 Pk.zero.id)).setCell (p := ⟨W.heap.size, 1, none⟩) (Nat.le_refl _) (.int .i64 Pk.zero.src)).setCell (p := ⟨W.heap.size, 2, none⟩) (Nat.le_refl _) (.int .i64 Pk.zero.dst)).setCell (p := ⟨W.heap.size, 3, none⟩) (Nat.le_refl _) (.string Pk.zero.data) |>.setCell (p := ⟨W.heap.size, 4, none⟩) (Nat.le_refl _) (.int .i64 Pk.zero.due)))
    replace hP2 := Lib.hid hP2
    replace hB2 := Lib.hid hB2
    replace hP := Lib.hid hP
    clear hb
    go_wp2_with fail
    go_quiet (fail)
    obtain ⟨a0, a1, a2, a3, a4, a5⟩ := PkAt.cells (show PkAt (wr.drewN nq) W.heap.size Pk.zero from hP.out)
    have hP2 : PkAt (putB (wr.drewN nq) W.heap.size Pk.zero) W.heap.size Pk.zero := PkAt.putB (show PkAt (wr.drewN nq) W.heap.size Pk.zero from hP.out) Pk.zero
    have hB2 : Below W.heap.size W (putB (wr.drewN nq) W.heap.size Pk.zero) := (below_drewN hB2.out nq)
    replace hP2 := Lib.hid hP2
    replace hB2 := Lib.hid hB2
    generalize wr.drewN nq = w2 at a0 a1 a2 a3 a4 a5 hP2 hB2 ⊢
    go_wp2_with fail
    refine bodyPost_ret (next_res next_results hP2.out rfl rfl) rfl ?_
    exact ⟨rfl, hB2⟩
set_option maxRecDepth 100000 in
set_option maxHeartbeats 4000000 in
theorem send_nil (x y : Int) (t : ByteArray) (d : Int) (W : World) : Calls Try.prog 18 #[.pointer none, .int .i64 x, .int .i64 y, .string t, .int .i64 d] W fun e w' => e = .returned (.tuple #[.int .i64 0, .int .i64 1]) ∧ Hid (Below W.heap.size W w') := by
  have hlk := Lib.hid (link_any x y W)
  go_enter Try.func18, Try.ntmps18
  go_wp2_with fail
  refine hlk.out.mono ?_
  rintro e w1 ⟨x1, y1, ok, rfl, hxy, hb1⟩
  have hB := Lib.hid ((hb1.out).alloc hb1.out.size (.cells #[.int .i64 x1, .int .i64 y1] 57))
  go_wp2_with fail
  go_ret2
  exact ⟨rfl, hB⟩
set_option maxRecDepth 100000 in
set_option maxHeartbeats 4000000 in
theorem cut_nil (x y : Int) (c : Bool) (W : World) : Calls Try.prog 11 #[.pointer none, .int .i64 x, .int .i64 y, .bool c] W fun e w' => e = .returned (.int .i64 1) ∧ Hid (Below W.heap.size W w') := by
  have hlk := Lib.hid (link_any x y W)
  go_enter Try.func11, Try.ntmps11
  go_wp2_with fail
  refine hlk.out.mono ?_
  rintro e w1 ⟨x1, y1, ok, rfl, hxy, hb1⟩
  have hB := Lib.hid ((hb1.out).alloc hb1.out.size (.cells #[.int .i64 x1, .int .i64 y1] 57))
  go_wp2_with fail
  go_ret
  exact ⟨rfl, hB⟩
end Go.Proofs.Ytjopbglimjhefaa
