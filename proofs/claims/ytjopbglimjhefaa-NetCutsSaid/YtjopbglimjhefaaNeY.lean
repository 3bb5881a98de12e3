/- NetCuts: walked. -/
import Derived.Test.YtjopbglimjhefaaNeX
import Derived.Test.YtjopbglimjhefaaNeS
namespace Go.Proofs.Ytjopbglimjhefaa
open Go.RowKit Go.Maps Go.WideMaps

/-! a row of acts of the call's own -/
def actsCells (l : List ActD) : List Value := l.flatMap actCells
theorem actsCells_len : ∀ (l : List ActD), (actsCells l).length = l.length * 5
  | [] => rfl
  | k :: r => by
    have := actsCells_len r
    unfold actsCells at this ⊢
    rw [List.flatMap_cons, List.length_append, this, List.length_cons]
    show 5 + _ = _
    omega
theorem actsCells_app (a b : List ActD) : actsCells (a ++ b) = actsCells a ++ actsCells b := List.flatMap_append
theorem actsCells_get : ∀ (l : List ActD) (j : Nat) (hj : j < l.length) (r : Nat), r < 5 → (actsCells l)[j * 5 + r]? = (actCells l[j])[r]?
  | k :: l, 0, _, r, hr => by
    unfold actsCells
    rw [List.flatMap_cons, List.getElem?_append_left (by show _ < 5; omega)]
    simp
  | k :: l, j + 1, hj, r, hr => by
    have := actsCells_get l j (by simpa using hj) r hr
    unfold actsCells at this ⊢
    rw [List.flatMap_cons, List.getElem?_append_right (by show 5 ≤ _; omega), List.getElem_cons_succ, ← this]
    congr 1
    show (j + 1) * 5 + r - 5 = _
    omega
theorem actCells_one (x : ActD) : ∀ u ∈ actCells x, u.oneCell' = true := fun u hu => by
  simp only [actCells, List.mem_cons, List.not_mem_nil, or_false] at hu
  rcases hu with rfl | rfl | rfl | rfl | rfl <;> rfl
theorem act_info : (Try.prog.info? 39).map (fun i => (i.zero, i.size, i.bytes)) = some (some (.agg #[.int .i64 0, .int .i64 0, .int .i64 0, .int .i64 0, .string ⟨#[]⟩]), 5, 48) := by kernel_rfl
def OwnA (w : World) (v : Value) (l : List ActD) : Prop := w.ownsRow 0 39 5 v l.length (actsCells l)
theorem OwnA.block {W W' : World} {v : Value} {l : List ActD} (h : OwnA W v l) (hk : ∀ g, v.ownBlock = some g → W'.heap[g]? = W.heap[g]?) : OwnA W' v l := by
  refine ⟨h.1, ?_⟩
  rcases h.2 with h1 | ⟨g, cap, cur, h1, h2, h3, h4⟩
  · exact .inl h1
  · exact .inr ⟨g, cap, cur, h1, h2, (hk g (by rw [h1]; rfl)).trans h3, h4⟩
def rowA (v : Value) (l : List ActD) : Th := ⟨fun F W => OwnA W v l ∧ ∀ k, F k ↔ v.ownBlock = some k, fun _ _ h k hk => (World.ownsRow.lt h.1 k ((h.2 k).1 hk)).2, fun _ _ _ h hk => ⟨h.1.block (fun g hg => hk g ((h.2 g).2 hg)), h.2⟩⟩
theorem Zoo.bareRowA {W0 W : World} {L : List Th} (h : Zoo W0 W L) : Zoo W0 W (rowA (.slice none 0 0) [] :: L) := h.bare _ ⟨World.ownsRow_nil _ _ _ _, fun k => by simp [Value.ownBlock]⟩
theorem OwnA.acts {w : World} {v : Value} {l : List ActD} (h : OwnA w v l) : ActsIn w v l := by
  have hrd := Rd.of_own h
  obtain ⟨ao, cap, rfl, hrd⟩ := hrd
  refine ⟨ao, cap, rfl, ?_⟩
  rcases hrd with h0 | ⟨b, o, ha, hlt, _, hc⟩
  · exact .inl (List.eq_nil_of_length_eq_zero h0)
  · have g : ∀ j (hj : j < l.length) r, r < 5 → ∀ u, (actCells l[j])[r]? = some u → w.cell? ⟨b, o + j * 5 + r, none⟩ = some u := fun j hj r hr u hu => by
      rw [Nat.add_assoc]
      exact hc _ _ ((actsCells_get l j hj r hr).trans hu)
    exact .inr ⟨b, o, ha, hlt, fun j hj => ⟨g j hj 0 (by decide) _ rfl, g j hj 1 (by decide) _ rfl, g j hj 2 (by decide) _ rfl, g j hj 3 (by decide) _ rfl, g j hj 4 (by decide) _ rfl⟩⟩
theorem Zoo.acts {W0 W : World} {L : List Th} {v : Value} {l : List ActD} (h : Zoo W0 W L) (i : Nat) (hi : L[i]? = some (rowA v l)) : ActsIn W v l := by
  obtain ⟨F, h1, _⟩ := h.get i _ hi
  exact h1.1.acts
theorem act_one (W : World) (x : ActD) : Rd (W.alloc (.cells #[.int .i64 x.kind, .int .i64 x.a, .int .i64 x.b, .int .i64 x.n, .string x.s] 39)) (.slice (some ⟨W.heap.size, 0, none⟩) 1 1) 1 (actCells x) := by
  have h : OwnA (W.alloc (.cells #[.int .i64 x.kind, .int .i64 x.a, .int .i64 x.b, .int .i64 x.n, .string x.s] 39)) (.slice (some ⟨W.heap.size, 0, none⟩) 1 1) [x] :=
    ⟨rfl, .inr ⟨W.heap.size, 1, _, rfl, Nat.zero_le _, heap_alloc_new W _, Nat.le_refl _, by unfold maxLen; omega, rfl, rfl⟩⟩
  have h2 : actsCells [x] = actCells x := by simp [actsCells]
  unfold OwnA at h
  rw [h2] at h
  exact Rd.of_own h
theorem wpList_append_act {W0 W : World} {L : List Th} {ops : Array Oper} {rest : List Oper} {o : Oper} {a : Act} {Q : Exit → Act → World → Prop} (hgd : o.guard = none) (s x : Operand)
    (ho : o.op = .call { callee := .builtin .append, args := #[s, x], argTypes := #[22, 22] }) (hz : Zoo W0 W L) (i : Nat) (v : Value) (l : List ActD) (p : ActD) (hi : L[i]? = some (rowA v l))
    (hs : a.eval s = v) (c : Nat) (hx : a.eval x = .slice (some ⟨c, 0, none⟩) 1 1) (hc : c = W.heap.size) (hlen : l.length ≤ 100000)
    (h : ∀ v' w', Zoo W0 w' (L.set i (rowA v' (l ++ [p]))) → wpList Try.prog ops Q rest (a.put o.dst v') w') :
    wpList Try.prog ops Q (o :: rest) a (W.alloc (.cells #[.int .i64 p.kind, .int .i64 p.a, .int .i64 p.b, .int .i64 p.n, .string p.s] 39)) := by
  subst hc
  have hz2 := hz.alloc (.cells #[.int .i64 p.kind, .int .i64 p.a, .int .i64 p.b, .int .i64 p.n, .string p.s] 39)
  obtain ⟨F, ⟨hown, hF⟩, hlow, hact⟩ := hz2.act i _ hi
  refine wpList_append_rd hgd s x 22 ho 0 39 _ 5 48 Try.underlying22 act_info rfl (by decide) v _ l.length 1 (actsCells l) (actCells p) hs hx hown (act_one W p) rfl (actCells_one p) (by unfold maxLen; omega) (by omega) (Nat.zero_le _) ?_
  intro v' w' ho' hg' hat
  refine h v' w' (hact (rowA v' (l ++ [p])) (fun k => v'.ownBlock = some k) w' ⟨?_, fun _ => Iff.rfl⟩ ⟨hg'.os, hg'.tape, hg'.output, hg'.size, fun k hk hn => hg'.block k hk (fun e => hn ((hF k).2 e.symm)), fun k hk => ?_⟩)
  · unfold OwnA
    rw [List.length_append, actsCells_app]
    have e : actsCells [p] = actCells p := by simp [actsCells]
    rw [e]
    exact ho'
  · rcases hat k hk with q | q
    · exact .inl ((hF k).2 q)
    · exact .inr q
/-! the measure: how much is under way -/
theorem lenAt_zoo {W0 W : World} {L : List Th} (h : Zoo W0 W L) (i b : Nat) (s : Ns) (hi : L[i]? = some (netT b s)) : lenAt W b = s.l.length := by
  obtain ⟨F, ⟨m, v, l, hn, hh, hp, hF⟩, _⟩ := h.get i _ hi
  rw [lenAt_eq hn.fl, hp.length_eq]
/-! how the two begin -/
theorem OnceI.bare {s : Ns} (h1 : s.l = []) (h2 : s.last = 0) : OnceI s [] [] := ⟨h2, by rw [h1]; exact List.nodup_nil, fun q hq => by rw [h1] at hq; simp at hq⟩
def cutNew (a b : Int) : Ns := ⟨[], 0, 0, 1, setC (fun _ _ => false) (lo a b) (hi a b) true⟩
theorem both_start {a b : Int} {ks : List ActD} {s1 s2 : Ns} {sn1 cm1 sn2 cm2 : List Pk} (h1 : RunR (cutNew a b) ks s1 sn1 cm1) (h2 : RunR Ns.new ks s2 sn2 cm2) (hm : ∀ x ∈ ks, Mild x.kind) (hl : ks.length ≤ 60) :
    Both s1 s2 s1.now 0 (cutNew a b).C ∧ s1.now ≤ 1000 := by
  obtain ⟨ht, c1, c2⟩ := Twin.run (s0 := cutNew a b) (s0' := Ns.new) ⟨List.Perm.refl _, rfl, rfl⟩ (OnceI.bare rfl rfl) h1 h2 hm
  have k0 : NOk (cutNew a b) 100 := ⟨by simp [cutNew], fun q hq => by simp [cutNew] at hq, Nat.zero_le _, Nat.zero_le _, by show 1 ≤ 100; omega⟩
  have d1 := Side.of_run h1 (k0.more (by omega)) (OnceI.bare rfl rfl) (fun p hp => by simp [cutNew] at hp) (by omega)
  have d2 := Side.of_run h2 (NOk.new 1000) (OnceI.bare rfl rfl) (fun p hp => by simp [Ns.new] at hp) (by omega)
  rw [c1] at d1
  rw [c2, ← ht.now] at d2
  exact ⟨⟨d1, d2, ht.l.filter _⟩, by have := (h1.ok k0).now; omega⟩
theorem Both.done {sn sm : Ns} {t0 t : Nat} {C : Int → Int → Bool} (h : Both sn sm t0 t C) (ht : 101 ≤ t) (hl : Later0 sn t) : sn.l = [] := by
  cases e : sn.l with
  | nil => rfl
  | cons p l =>
    have h1 := hl (by omega) p (by rw [e]; simp)
    have h2 := h.n.due p (by rw [e]; simp)
    have := h.n.now
    omega
theorem cuts_says {a b : Int} (h : linkB a b = false) : (decide (a < 1) || (decide (5 < a) || (decide (b < 1) || (decide (5 < b) || (a == b))))) = true := by
  unfold linkB at h
  have h' := of_decide_eq_false h
  simp only [Bool.or_eq_true, decide_eq_true_eq, beq_iff_eq]
  omega
end Go.Proofs.Ytjopbglimjhefaa
