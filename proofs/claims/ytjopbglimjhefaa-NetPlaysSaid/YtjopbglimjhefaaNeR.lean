/- Scripts: acts that are read, rows of packets of the call's own; run: walked. -/
import Derived.Test.YtjopbglimjhefaaNeQ
namespace Go.Proofs.Ytjopbglimjhefaa
open Go.RowKit Go.Maps Go.WideMaps

structure ActD where
  kind : Int
  a : Int
  b : Int
  n : Int
  s : ByteArray
def actCells (x : ActD) : List Value := [.int .i64 x.kind, .int .i64 x.a, .int .i64 x.b, .int .i64 x.n, .string x.s]
/-- v reads as the acts l -/
def ActsIn (w : World) (v : Value) (l : List ActD) : Prop := ∃ ao cap, v = .slice ao l.length cap ∧ (l = [] ∨ ∃ b o, ao = some ⟨b, o, none⟩ ∧ b < w.heap.size ∧ ∀ j (hj : j < l.length),
  w.cell? ⟨b, o + j * 5, none⟩ = some (.int .i64 l[j].kind) ∧ w.cell? ⟨b, o + j * 5 + 1, none⟩ = some (.int .i64 l[j].a) ∧ w.cell? ⟨b, o + j * 5 + 2, none⟩ = some (.int .i64 l[j].b) ∧ w.cell? ⟨b, o + j * 5 + 3, none⟩ = some (.int .i64 l[j].n) ∧ w.cell? ⟨b, o + j * 5 + 4, none⟩ = some (.string l[j].s))
theorem ActsIn.below {w w' : World} {v : Value} {l : List ActD} (h : ActsIn w v l) (hb : Below w.heap.size w w') : ActsIn w' v l := by
  obtain ⟨ao, cap, hv, h⟩ := h
  refine ⟨ao, cap, hv, ?_⟩
  rcases h with h | ⟨b, o, ha, hlt, hc⟩
  · exact .inl h
  · have e : ∀ j, w'.cell? ⟨b, j, none⟩ = w.cell? ⟨b, j, none⟩ := fun j => hb.cell (p := ⟨b, j, none⟩) hlt
    exact .inr ⟨b, o, ha, Nat.lt_of_lt_of_le hlt hb.size, fun j hj => by simp only [e]; exact hc j hj⟩
/-- a row of packets of the call's own -/
def rowP (v : Value) (l : List Pk) : Th := ⟨fun F W => OwnP W v l ∧ ∀ k, F k ↔ v.ownBlock = some k, fun _ _ h k hk => h.1.lt ((h.2 k).1 hk), fun _ _ _ h hk => ⟨h.1.block (fun g hg => hk g ((h.2 g).2 hg)), h.2⟩⟩
theorem Zoo.bareRow {W0 W : World} {L : List Th} (h : Zoo W0 W L) : Zoo W0 W (rowP (.slice none 0 0) [] :: L) := h.bare _ ⟨World.ownsRow_nil _ _ _ _, fun k => by simp [Value.ownBlock]⟩
theorem Zoo.row {W0 W : World} {L : List Th} {v : Value} {l : List Pk} (h : Zoo W0 W L) (i : Nat) (hi : L[i]? = some (rowP v l)) : OwnP W v l := by
  obtain ⟨F, h1, _⟩ := h.get i _ hi
  exact h1.1
theorem pk_one (W : World) (p : Pk) : Rd (W.alloc (.cells #[.int .i64 p.id, .int .i64 p.src, .int .i64 p.dst, .string p.data, .int .i64 p.due] 30)) (.slice (some ⟨W.heap.size, 0, none⟩) 1 1) 1 (pkCells p) := by
  have h : OwnP (W.alloc (.cells #[.int .i64 p.id, .int .i64 p.src, .int .i64 p.dst, .string p.data, .int .i64 p.due] 30)) (.slice (some ⟨W.heap.size, 0, none⟩) 1 1) [p] :=
    ⟨rfl, .inr ⟨W.heap.size, 1, _, rfl, Nat.zero_le _, heap_alloc_new W _, Nat.le_refl _, by unfold maxLen; omega, rfl, rfl⟩⟩
  have h2 : rowCells [p] = pkCells p := by simp [rowCells]
  unfold OwnP at h
  rw [h2] at h
  exact Rd.of_own h
/-- 'append(v, Packet{..})' -/
theorem wpList_append_pk {W0 W : World} {L : List Th} {ops : Array Oper} {rest : List Oper} {o : Oper} {a : Act} {Q : Exit → Act → World → Prop} (hgd : o.guard = none) (s x : Operand)
    (ho : o.op = .call { callee := .builtin .append, args := #[s, x], argTypes := #[24, 24] }) (hz : Zoo W0 W L) (i : Nat) (v : Value) (l : List Pk) (p : Pk) (hi : L[i]? = some (rowP v l))
    (hs : a.eval s = v) (c : Nat) (hx : a.eval x = .slice (some ⟨c, 0, none⟩) 1 1) (hc : c = W.heap.size) (hlen : l.length ≤ 100000)
    (h : ∀ v' w', Zoo W0 w' (L.set i (rowP v' (l ++ [p]))) → wpList Try.prog ops Q rest (a.put o.dst v') w') :
    wpList Try.prog ops Q (o :: rest) a (W.alloc (.cells #[.int .i64 p.id, .int .i64 p.src, .int .i64 p.dst, .string p.data, .int .i64 p.due] 30)) := by
  subst hc
  have hz2 := hz.alloc (.cells #[.int .i64 p.id, .int .i64 p.src, .int .i64 p.dst, .string p.data, .int .i64 p.due] 30)
  obtain ⟨F, ⟨hown, hF⟩, hlow, hact⟩ := hz2.act i _ hi
  refine wpList_append_rd hgd s x 24 ho 0 30 _ 5 48 Try.underlying24 pk_info rfl (by decide) v _ l.length 1 (rowCells l) (pkCells p) hs hx hown (pk_one W p) rfl (rowCells_one1 p) (by unfold maxLen; omega) (by omega) (Nat.zero_le _) ?_
  intro v' w' ho' hg' hat
  refine h v' w' (hact (rowP v' (l ++ [p])) (fun k => v'.ownBlock = some k) w' ⟨?_, fun _ => Iff.rfl⟩ ⟨hg'.os, hg'.tape, hg'.output, hg'.size, fun k hk hn => hg'.block k hk (fun e => hn ((hF k).2 e.symm)), fun k hk => ?_⟩)
  · unfold OwnP
    rw [List.length_append, rowCells_app]
    have e : rowCells [p] = pkCells p := by simp [rowCells]
    rw [e]
    exact ho'
  · rcases hat k hk with q | q
    · exact .inl ((hF k).2 q)
    · exact .inr q
/-- what an act of a run does: what was sent, what came -/
def ActR (s : Ns) (a : ActD) (s' : Ns) (sn cm : List Pk) : Prop :=
  (a.kind = 0 ∧ s' = tickS s ∧ sn = [] ∧ cm = []) ∨
  (a.kind = 1 ∧ s' = (sendS s a.a a.b a.s a.n).2.2 ∧ sn = (if (sendS s a.a a.b a.s a.n).2.1 = 0 then [⟨(sendS s a.a a.b a.s a.n).1, a.a, a.b, a.s, 0⟩] else []) ∧ cm = []) ∨
  (a.kind = 2 ∧ ∃ r l2, NextR s.now s.C s.l r l2 ∧ s' = withL s l2 ∧ sn = [] ∧ cm = r.toList) ∨
  (a.kind = 3 ∧ (∃ x, LoseS s a.a x s') ∧ sn = [] ∧ cm = []) ∨
  (a.kind = 5 ∧ (∃ x, LateS s a.a a.n x s') ∧ sn = [] ∧ cm = []) ∨
  ((a.kind = 6 ∨ a.kind = 7) ∧ s' = (cutS s a.a a.b (a.kind == 6)).2 ∧ sn = [] ∧ cm = []) ∨
  ((a.kind ≠ 0 ∧ a.kind ≠ 1 ∧ a.kind ≠ 2 ∧ a.kind ≠ 3 ∧ a.kind ≠ 5 ∧ a.kind ≠ 6 ∧ a.kind ≠ 7) ∧ s' = s ∧ sn = [] ∧ cm = [])
inductive RunR (s : Ns) : List ActD → Ns → List Pk → List Pk → Prop
  | nil : RunR s [] s [] []
  | snoc {acts : List ActD} {s1 : Ns} {sn cm : List Pk} {a : ActD} {s2 : Ns} {sn1 cm1 : List Pk} : RunR s acts s1 sn cm → ActR s1 a s2 sn1 cm1 → RunR s (acts ++ [a]) s2 (sn ++ sn1) (cm ++ cm1)
structure NOk (s : Ns) (n : Nat) : Prop where
  len : s.l.length ≤ 512
  good : Good s.l
  now : s.now ≤ n
  last : s.last ≤ n
  N : s.N ≤ n
theorem NOk.more {s : Ns} {n m : Nat} (h : NOk s n) (hm : n ≤ m) : NOk s m := ⟨h.len, h.good, Nat.le_trans h.now hm, Nat.le_trans h.last hm, Nat.le_trans h.N hm⟩
theorem NextR.cases' {now : Nat} {C : Int → Int → Bool} {l : List Pk} {r : Option Pk} {l' : List Pk} (h : NextR now C l r l') : ∃ gone, (r.toList ++ gone ++ l').Perm l := by
  induction h with
  | none l h => exact ⟨[], List.Perm.refl _⟩
  | take p l l' h1 h2 h3 h4 => exact ⟨[], h1⟩
  | drop p l l1 r l' h1 h2 h3 h4 _ ih =>
    obtain ⟨g, hg⟩ := ih
    refine ⟨p :: g, ?_⟩
    have : (r.toList ++ p :: g ++ l').Perm (p :: (r.toList ++ g ++ l')) := by
      rw [List.append_assoc, List.append_assoc, List.cons_append]
      exact List.perm_middle
    exact this.trans ((hg.cons p).trans h1)
theorem NextR.sub {now : Nat} {C : Int → Int → Bool} {l : List Pk} {r : Option Pk} {l' : List Pk} (h : NextR now C l r l') : l'.length ≤ l.length ∧ (∀ q ∈ l', q ∈ l) ∧ ∀ p, r = Option.some p → p ∈ l := by
  obtain ⟨g, hg⟩ := h.cases'
  refine ⟨?_, fun q hq => hg.mem_iff.1 (by simp [hq]), fun p hp => hg.mem_iff.1 (by simp [hp])⟩
  have := hg.length_eq
  simp only [List.length_append] at this
  omega
theorem NOk.send {s : Ns} {n : Nat} (h : NOk s n) (x y : Int) (t : ByteArray) (d : Int) : NOk (sendS s x y t d).2.2 (n + 1) := by
  unfold sendS
  have h' := h.more (Nat.le_succ n)
  split
  · rename_i hok
    split
    · refine ⟨by show (_ :: s.l).length ≤ 512; rw [List.length_cons]; omega, fun q hq => ?_, h'.now, by show s.last + 1 ≤ n + 1; have := h.last; omega, h'.N⟩
      rcases List.mem_cons.1 hq with rfl | hq
      · refine (linkB_iff _ _).2 ?_
        unfold sendOk at hok
        simp only [Bool.and_eq_true] at hok
        exact hok.1.1
      · exact h.good q hq
    · exact h'
  · exact h'
theorem NOk.lose {s s' : Ns} {n : Nat} {id x : Int} (h : NOk s n) (hl : LoseS s id x s') : NOk s' n := by
  rcases hl with ⟨_, _, rfl⟩ | ⟨p, l2, _, hp, _, rfl⟩
  · exact h
  · have hlen := hp.length_eq
    have := h.len
    exact ⟨by show l2.length ≤ 512; rw [List.length_cons] at hlen; omega, fun q hq => h.good q (hp.mem_iff.1 (List.mem_cons_of_mem _ hq)), h.now, h.last, h.N⟩
theorem NOk.late {s s' : Ns} {n : Nat} {id d x : Int} (h : NOk s n) (hl : LateS s id d x s') : NOk s' n := by
  rcases hl with ⟨_, _, rfl⟩ | ⟨_, _, _, rfl⟩ | ⟨_, p, l2, _, hp, _, rfl⟩
  · exact h
  · exact h
  · have hlen := hp.length_eq
    have := h.len
    refine ⟨by show (_ :: l2).length ≤ 512; rw [List.length_cons] at hlen ⊢; omega, fun q hq => ?_, h.now, h.last, h.N⟩
    rcases List.mem_cons.1 hq with rfl | hq
    · exact h.good p (hp.mem_iff.1 (by simp))
    · exact h.good q (hp.mem_iff.1 (List.mem_cons_of_mem _ hq))
theorem NOk.cut {s : Ns} {n : Nat} (h : NOk s n) (x y : Int) (c : Bool) : NOk (cutS s x y c).2 (n + 1) := by
  unfold cutS
  have h' := h.more (Nat.le_succ n)
  split
  · exact ⟨h.len, h.good, h'.now, h'.last, by show s.N + 1 ≤ n + 1; have := h.N; omega⟩
  · exact h'
theorem NOk.next {s : Ns} {n : Nat} (h : NOk s n) {r : Option Pk} {l2 : List Pk} (hr : NextR s.now s.C s.l r l2) : NOk (withL s l2) n := by
  obtain ⟨h1, h2, _⟩ := hr.sub
  exact ⟨Nat.le_trans h1 h.len, fun q hq => h.good q (h2 q hq), h.now, h.last, h.N⟩
theorem ActR.ok {s : Ns} {a : ActD} {s' : Ns} {sn cm : List Pk} {n : Nat} (h : ActR s a s' sn cm) (hk : NOk s n) : NOk s' (n + 1) := by
  have hk' := hk.more (Nat.le_succ n)
  rcases h with ⟨_, rfl, _⟩ | ⟨_, rfl, _⟩ | ⟨_, r, l2, hr, rfl, _⟩ | ⟨_, ⟨x, hx⟩, _⟩ | ⟨_, ⟨x, hx⟩, _⟩ | ⟨_, rfl, _⟩ | ⟨_, rfl, _⟩
  · exact ⟨hk.len, hk.good, by show s.now + 1 ≤ n + 1; have := hk.now; omega, hk'.last, hk'.N⟩
  · exact hk.send _ _ _ _
  · exact hk'.next hr
  · exact hk'.lose hx
  · exact hk'.late hx
  · exact hk.cut _ _ _
  · exact hk'
theorem RunR.ok {s : Ns} {acts : List ActD} {s' : Ns} {sn cm : List Pk} {n : Nat} (h : RunR s acts s' sn cm) (hk : NOk s n) : NOk s' (n + acts.length) := by
  induction h with
  | nil => exact hk
  | snoc _ h2 ih => rw [List.length_append]; exact h2.ok ih
theorem ActR.short {s : Ns} {a : ActD} {s' : Ns} {sn cm : List Pk} (h : ActR s a s' sn cm) : sn.length ≤ 1 ∧ cm.length ≤ 1 := by
  rcases h with ⟨_, _, rfl, rfl⟩ | ⟨_, _, rfl, rfl⟩ | ⟨_, r, l2, hr, _, rfl, rfl⟩ | ⟨_, _, rfl, rfl⟩ | ⟨_, _, rfl, rfl⟩ | ⟨_, _, rfl, rfl⟩ | ⟨_, _, rfl, rfl⟩
  · simp
  · split <;> simp
  · cases r <;> simp
  all_goals simp
theorem RunR.short {s : Ns} {acts : List ActD} {s' : Ns} {sn cm : List Pk} (h : RunR s acts s' sn cm) : sn.length ≤ acts.length ∧ cm.length ≤ acts.length := by
  induction h with
  | nil => simp
  | snoc _ h2 ih => have := h2.short; simp only [List.length_append, List.length_cons, List.length_nil]; omega
end Go.Proofs.Ytjopbglimjhefaa
