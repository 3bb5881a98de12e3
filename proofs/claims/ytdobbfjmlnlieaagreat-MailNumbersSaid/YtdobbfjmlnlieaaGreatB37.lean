/- MailNumbers: the map of what was noted, as a thing in memory. MailNumbers: the plain law: how a state comes of another one, and what was noted of it. -/
import Derived.Test.YtdobbfjmlnlieaaGreatB02
import Derived.Test.YtdobbfjmlnlieaaGreatChecked
import Derived.Maps.OwnSet
import Derived.Maps.StringElems
import Derived.DeepKeys5
import Derived.Test.YtdobbfjmlnlieaaGreatB27
namespace Go.Proofs.YtdobbfjmlnlieaaGreat
set_option linter.unusedSimpArgs false
open Go.RowKit
open Go.Maps (Keyed)

/-- a mailbox, its Validity, a Uid -/
structure Nk where
  box : ByteArray
  val : Nat
  uid : Nat
def Notes : Type := Nk → Option ByteArray
open Classical in
noncomputable def notePut (F : Notes) (k : Nk) (h : ByteArray) : Notes := fun k' => if k' = k then some h else F k'
def nkV (k : Nk) : Value := .agg #[.string k.box, .int .u64 (k.val : Int), .int .u64 (k.uid : Int)]
theorem nk_laid : laidOutB Tryz.prog = true := by kernel_rfl
theorem nk_size : decide (Tryz.prog.types.size + 2 ≤ 10000) = true := by kernel_rfl
theorem nk_row : decide (52 < Tryz.prog.types.size) = true := by kernel_rfl
theorem nk_type : Tryz.prog.keyType 52 = true := by kernel_rfl
theorem nk_wide : (match Tryz.prog.underlying 52 with | some (.array _ _) | some (.struct _) => true | _ => false) = true := by rw [Tryz.underlying52]
set_option maxRecDepth 100000 in
theorem nk_keyed : Keyed Tryz.prog 52 := .of_law (deep_law_gate nk_laid (of_decide_eq_true nk_size) (of_decide_eq_true nk_row) nk_type nk_wide)
structure NkSz (k : Nk) : Prop where
  box : k.box.size ≤ maxLen
  val : k.val < 18446744073709551616
  uid : k.uid < 18446744073709551616
theorem nk_cells : Tryz.prog.cellsOf 52 = 3 := by kernel_rfl
theorem nk_str : Tryz.prog.cellsOf 9 = 1 := by kernel_rfl
theorem nk_u64 : Tryz.prog.cellsOf 23 = 1 := by kernel_rfl
theorem nk_key (k : Nk) (h : NkSz k) : ∃ l, keyOf Tryz.prog 52 (nkV k) = some l := by
  obtain ⟨n, hn⟩ : ∃ n, Tryz.prog.types.size + 1 = n + 2 := by
    have h1 : decide (1 ≤ Tryz.prog.types.size) = true := by kernel_rfl
    have h2 := of_decide_eq_true h1
    exact ⟨Tryz.prog.types.size - 1, by omega⟩
  have hf : (nkV k).formed Tryz.prog 52 = true := by simp [nkV, Value.formed, Tryz.underlying52, nk_cells]
  have w1 : (Lit.int .u64 (k.val : Int)).wf = true := WalkArith.wf_u64 (by have := h.val; omega)
  have w2 : (Lit.int .u64 (k.uid : Int)).wf = true := WalkArith.wf_u64 (by have := h.uid; omega)
  have hb := h.box
  refine ⟨.string (keyBytes [.string k.box.data.toList, .int .u64 (k.val : Int), .int .u64 (k.uid : Int)]), ?_⟩
  · unfold keyOf
    simp only [Tryz.underlying52, nk_type, hf, Bool.and_self, if_true]
    rw [hn]
    simp [Program.keyLits, nkV, Value.cells, Tryz.underlying52, nk_cells, nk_str, nk_u64, Tryz.underlying9, Tryz.underlying23, w1, w2, hb]
theorem nkV_inj {a b : Nk} (h : nkV a = nkV b) : a = b := by
  unfold nkV at h
  injection h with h
  have h1 := congrArg Array.toList h
  simp only [List.cons.injEq, Value.string.injEq, Value.int.injEq] at h1
  obtain ⟨h2, ⟨-, h3⟩, ⟨-, h4⟩, -⟩ := h1
  cases a; cases b
  dsimp only at h2 h3 h4
  rw [h2, Int.ofNat.inj h3, Int.ofNat.inj h4]
noncomputable def mapR : Value → Option (DataW Unit × List MemPlace) := plainElem Tryz.prog 9
/-- block B is a map of at most n entries that holds what was noted -/
def MapAt (W : World) (B n : Nat) (F : Notes) : Prop := ∃ D : DataW Unit, W.ownsMap Tryz.prog 52 mapR B n D ∧ ∀ k l, keyOf Tryz.prog 52 (nkV k) = some l → Maps.has D l = (F k).isSome ∧ ∀ h, F k = some h → D.atKey l (.lit (.string [])) = .lit (.string h.data.toList)
theorem MapAt.lt {W : World} {B n : Nat} {F : Notes} (h : MapAt W B n F) : B < W.heap.size := by
  obtain ⟨D, h, -⟩ := h
  exact h.lt
theorem MapAt.kept {W W' : World} {B n : Nat} {F : Notes} (h : MapAt W B n F) (hk : W'.heap[B]? = W.heap[B]?) : MapAt W' B n F := by
  obtain ⟨D, ⟨es, clock, hb, r⟩, h2⟩ := h
  exact ⟨D, ⟨es, clock, hk.trans hb, r⟩, h2⟩
theorem MapAt.mono {W : World} {B n m : Nat} {F : Notes} (h : MapAt W B n F) (hn : n ≤ m) : MapAt W B m F := by
  obtain ⟨D, h, h2⟩ := h
  exact ⟨D, h.mono hn, h2⟩
def note0 : Notes := fun _ => none
theorem MapAt.new (W : World) : MapAt (W.alloc (.map #[] 0)) W.heap.size 0 note0 := ⟨_, World.ownsMap_made W _ _ _, fun k l _ => ⟨rfl, fun h hh => by unfold note0 at hh; cases hh⟩⟩
theorem nk_zero (w : World) : (zeroValue 9).run Tryz.prog w = .ok (.string ⟨#[]⟩) w := by kernel_rfl
theorem nk_zd : mapR (.string ⟨#[]⟩) = some (.lit (.string []), []) := plainElem_string Tryz.underlying9 (by decide)
theorem MapAt.val {D : DataW Unit} {F : Notes} {k : Nk} {l : Lit} (h : Maps.has D l = (F k).isSome ∧ ∀ h, F k = some h → D.atKey l (.lit (.string [])) = .lit (.string h.data.toList)) {v : Value} {ps : List MemPlace} (hv : mapR v = some (D.atKey l (.lit (.string [])), ps)) : v = .string ((F k).getD ⟨#[]⟩) := by
  obtain ⟨s, rfl, he, -⟩ := plainElem_string_inv Tryz.underlying9 hv
  have he := congrArg Prod.fst he
  dsimp only at he
  cases hF : F k with
  | none =>
    have h1 := h.1
    rw [hF] at h1
    rw [Maps.atKey_of_not_has h1] at he
    have he := Lit.string.inj (DataW.lit.inj he)
    have : s = ⟨#[]⟩ := by
      obtain ⟨⟨x⟩⟩ := s
      dsimp only at he
      rw [← he]
    rw [this]; rfl
  | some hh =>
    have h1 := h.2 hh hF
    rw [h1] at he
    have he := Lit.string.inj (DataW.lit.inj he)
    have : s = hh := by
      obtain ⟨⟨x⟩⟩ := s
      obtain ⟨⟨y⟩⟩ := hh
      dsimp only at he
      rw [he]
    rw [this]; rfl
/-- 'h, was := all[k]' -/
theorem MapAt.look2 {W : World} {B n : Nat} {F : Notes} (h : MapAt W B n F) (k : Nk) (hk : NkSz k) : (Instr.lookup 45 (.map (some B)) (nkV k) true).run Tryz.prog W = .ok (.tuple #[.string ((F k).getD ⟨#[]⟩), .bool (F k).isSome]) W := by
  obtain ⟨D, h, h2⟩ := h
  obtain ⟨l, hl⟩ := nk_key k hk
  obtain ⟨v, ps, hrun, hv⟩ := h.look_ok nk_keyed Tryz.underlying45 (nk_zero W) nk_zd hl
  rw [hrun, (h2 k l hl).1, MapAt.val (h2 k l hl) hv]
/-- 'all[k]' -/
theorem MapAt.look1 {W : World} {B n : Nat} {F : Notes} (h : MapAt W B n F) (k : Nk) (hk : NkSz k) : (Instr.lookup 45 (.map (some B)) (nkV k) false).run Tryz.prog W = .ok (.string ((F k).getD ⟨#[]⟩)) W := by
  obtain ⟨D, h, h2⟩ := h
  obtain ⟨l, hl⟩ := nk_key k hk
  obtain ⟨v, ps, hrun, hv⟩ := h.lookup nk_keyed Tryz.underlying45 (nk_zero W) nk_zd hl
  rw [hrun, MapAt.val (h2 k l hl) hv]
/-- the map as a thing -/
def mapT (B n : Nat) (F : Notes) : Th := ⟨fun G W => MapAt W B n F ∧ ∀ k, G k ↔ k = B, fun G W h k hk => by rw [(h.2 k).1 hk]; exact h.1.lt, fun G W W' h hk => ⟨h.1.kept (hk B ((h.2 B).2 rfl)), h.2⟩⟩
theorem Zoo.map {W0 W : World} {L : List Th} {B n : Nat} {F : Notes} (h : Zoo W0 W L) (i : Nat) (hi : L[i]? = some (mapT B n F)) : MapAt W B n F ∧ W0.heap.size ≤ B := by
  obtain ⟨G, h1, h2⟩ := h.get i _ hi
  exact ⟨h1.1, h2 B ((h1.2 B).2 rfl)⟩
theorem Zoo.newMap {W0 W : World} {L : List Th} (h : Zoo W0 W L) : Zoo W0 (W.alloc (.map #[] 0)) (mapT W.heap.size 0 note0 :: L) :=
  h.more ((Below.refl _ _).alloc (Nat.le_refl _) _) _ (fun k => k = W.heap.size) ⟨MapAt.new W, fun _ => Iff.rfl⟩ (fun _ hk => Nat.le_of_eq hk.symm)
/-- 'all[k] = h': some world in which it is noted; nothing else has turned -/
theorem Zoo.putMap {W0 W : World} {L : List Th} {B n : Nat} {F : Notes} (h : Zoo W0 W L) (i : Nat) (hi : L[i]? = some (mapT B n F)) (hn : n < maxLen) (k : Nk) (hk : NkSz k) (s : ByteArray) (hs : s.size ≤ maxLen) :
    ∃ W', (Instr.mapUpdate 45 (.map (some B)) (nkV k) (.string s)).run Tryz.prog W = .ok () W' ∧ Zoo W0 W' (L.set i (mapT B (n + 1) (notePut F k s))) ∧ W'.heap.size = W.heap.size ∧ (∀ j, j ≠ B → W'.heap[j]? = W.heap[j]?) ∧ W'.os = W.os ∧ W'.tape = W.tape ∧ W'.output = W.output := by
  obtain ⟨G, ⟨hM, hG⟩, hlow, hact⟩ := h.act i _ hi
  obtain ⟨D, hD, h2⟩ := hM
  obtain ⟨l, hl⟩ := nk_key k hk
  obtain ⟨W', hrun, hD', hT⟩ := hD.store nk_keyed Tryz.underlying45 hn hl (plainElem_string Tryz.underlying9 hs)
  obtain ⟨es, clock, es', clock', hb, rfl⟩ := hT
  have hlt := hD.lt
  have hother : ∀ j, j ≠ B → (Go.ChangeMaps.setBlock W B (.map es' clock')).heap[j]? = W.heap[j]? := fun j hj => Go.ChangeMaps.heap_setBlock_other hb _ hj
  have hsz : (Go.ChangeMaps.setBlock W B (.map es' clock')).heap.size = W.heap.size := by simp [Go.ChangeMaps.setBlock]
  refine ⟨_, hrun, hact _ G _ ⟨⟨_, hD', fun k' l' hl' => ?_⟩, hG⟩ ⟨rfl, rfl, rfl, Nat.le_of_eq hsz.symm, fun j _ hj => hother j (fun e => hj ((hG j).2 e)), fun j hj => .inl hj⟩, hsz, hother, rfl, rfl, rfl⟩
  unfold notePut
  by_cases e : k' = k
  · subst e
    rw [if_pos rfl]
    obtain rfl : l' = l := by rw [hl] at hl'; exact (Option.some.inj hl').symm
    exact ⟨Maps.has_put_same hD.isMap (nk_keyed.key hl) _, fun h hh => by rw [← Option.some.inj hh]; exact Maps.atKey_put_same hD.isMap (nk_keyed.key hl) _ _⟩
  · rw [if_neg e]
    have hne : l' ≠ l := fun e2 => e (nkV_inj (nk_keyed.inj hl' (by rw [e2]; exact hl)))
    rw [Maps.has_put_other hne, Maps.atKey_put_other hne]
    exact h2 k' l' hl'
end Go.Proofs.YtdobbfjmlnlieaaGreat
namespace Go.Proofs.YtdobbfjmlnlieaaGreat
set_option linter.unusedSimpArgs false
open Go.RowKit

/-- a mailbox that has come of another one -/
structure EvoB (b t : Bx) : Prop where
  name : t.name = b.name
  val : t.validity = b.validity
  next : b.next ≤ t.next
  high : b.high ≤ t.high
  lets : ∀ x ∈ t.letters, (∃ z ∈ b.letters, z.uid = x.uid ∧ z.hash = x.hash) ∨ b.next ≤ x.uid
theorem EvoB.refl (b : Bx) : EvoB b b := ⟨rfl, rfl, Nat.le_refl _, Nat.le_refl _, fun x hx => .inl ⟨x, hx, rfl, rfl⟩⟩
/-- a state that has come of another one -/
structure Evo (m m' : Ml) : Prop where
  nv : m.nv ≤ m'.nv
  ns : m.ns ≤ m'.ns
  boxes : ∀ t ∈ m'.boxes, (∃ b ∈ m.boxes, EvoB b t) ∨ (m.nv ≤ t.validity ∧ ∀ b ∈ m.boxes, b.name ≠ t.name)
theorem Evo.same {m m' : Ml} (e : m'.boxes = m.boxes) (h1 : m.nv ≤ m'.nv) (h2 : m.ns ≤ m'.ns) : Evo m m' := ⟨h1, h2, fun t ht => .inl ⟨t, by rw [e] at ht; exact ht, .refl t⟩⟩
theorem Evo.refl (m : Ml) : Evo m m := .same rfl (Nat.le_refl _) (Nat.le_refl _)
theorem Evo.set {m : Ml} {i : Nat} (hi : i < m.boxes.length) {b : Bx} (hb : EvoB m.boxes[i] b) : Evo m (setM m i b) := by
  refine ⟨Nat.le_refl _, Nat.le_refl _, fun t ht => .inl ?_⟩
  rcases mem_set_out ht with h | rfl
  · exact ⟨t, h, .refl t⟩
  · exact ⟨m.boxes[i], List.getElem_mem hi, hb⟩
theorem open_evo (m : Ml) (q : Rq) (o : Oc) : Evo m (openM m q o).2.1 := by
  unfold openM
  split
  · exact .refl m
  split
  · exact .refl m
  split
  · split
    · exact .refl m
    · exact .refl m
  split
  · exact .refl m
  · unfold settleM
    split
    · exact .same rfl (Nat.le_refl _) (Nat.le_succ _)
    · exact .same rfl (Nat.le_refl _) (Nat.le_succ _)
theorem create_evo (m : Ml) (q : Rq) (o : Oc) : Evo m (createM m q o).2.1 := by
  unfold createM
  split
  · exact .refl m
  split
  · exact .refl m
  rename_i hno
  split
  · exact .refl m
  split
  · exact .refl m
  · refine ⟨Nat.le_succ _, Nat.le_refl _, fun t ht => ?_⟩
    rcases (mem_insS bxltB _ t m.boxes).1 ht with rfl | h
    · refine .inr ⟨Nat.le_refl _, fun b hb e => ?_⟩
      have := List.findIdx?_eq_none_iff.1 hno b hb
      dsimp only at e
      rw [e] at this
      simp at this
    · exact .inl ⟨t, h, .refl t⟩
theorem remove_evo (m : Ml) (q : Rq) (o : Oc) : Evo m (removeM m q o).2.1 := by
  unfold removeM
  split
  · exact .refl m
  split
  · exact .refl m
  rename_i i hf
  refine ⟨Nat.le_refl _, Nat.le_refl _, fun t ht => .inl ⟨t, ?_, .refl t⟩⟩
  have ht' : t ∈ m.boxes.take i ++ m.boxes.drop (i + 1) := ht
  rw [← List.eraseIdx_eq_take_drop_succ] at ht'
  exact List.mem_of_mem_eraseIdx ht'
theorem append_evo (m : Ml) (q : Rq) (o : Oc) : Evo m (appendM m q o).2.1 := by
  unfold appendM
  split
  · exact .refl m
  rename_i i hf
  obtain ⟨hl, he, -⟩ := List.findIdx?_eq_some_iff_getElem.1 hf
  rw [List.getElem?_eq_getElem hl]
  dsimp only
  split
  · exact .refl m
  split
  · exact .refl m
  split
  · exact .refl m
  split
  · exact .refl m
  · refine .set hl ⟨rfl, rfl, Nat.le_succ _, Nat.le_succ _, fun x hx => ?_⟩
    rcases List.mem_append.1 hx with hx | hx
    · exact .inl ⟨x, hx, rfl, rfl⟩
    · rw [List.mem_singleton.1 hx]; exact .inr (Nat.le_refl _)
theorem store_evo (m : Ml) (q : Rq) (o : Oc) : Evo m (storeM m q o).2.1 := by
  unfold storeM
  split
  · exact .refl m
  rename_i i hf
  obtain ⟨hl, he⟩ := named_lt hf
  rw [List.getElem?_eq_getElem hl]
  dsimp only
  split
  · exact .refl m
  split
  · exact .refl m
  split
  · exact .refl m
  split
  · exact .refl m
  · refine .set hl ⟨rfl, rfl, Nat.le_refl _, Nat.le_succ _, fun x hx => .inl ?_⟩
    obtain ⟨z, hz, rfl⟩ := List.mem_map.1 hx
    refine ⟨z, hz, ?_⟩
    unfold stNew
    split
    · exact ⟨rfl, rfl⟩
    · exact ⟨rfl, rfl⟩
theorem expunge_evo (m : Ml) (q : Rq) (o : Oc) : Evo m (expungeM m q o).2.1 := by
  unfold expungeM
  split
  · exact .refl m
  rename_i i hf
  obtain ⟨hl, he⟩ := named_lt hf
  rw [List.getElem?_eq_getElem hl]
  dsimp only
  split
  · exact .refl m
  split
  · exact .refl m
  · exact .set hl ⟨rfl, rfl, Nat.le_refl _, Nat.le_succ _, fun x hx => .inl ⟨x, (List.mem_filter.1 hx).1, rfl, rfl⟩⟩
theorem copy_evo (m : Ml) (q : Rq) (o : Oc) : Evo m (copyM m q o).2.1 := by
  unfold copyM
  split
  · exact .refl m
  rename_i i hf
  obtain ⟨hl, -⟩ := named_lt hf
  rw [List.getElem?_eq_getElem hl]
  dsimp only
  split
  · exact .refl m
  rename_i t ht
  obtain ⟨htl, hte, -⟩ := List.findIdx?_eq_some_iff_getElem.1 ht
  rw [List.getElem?_eq_getElem htl]
  dsimp only
  split
  · exact .refl m
  split
  · exact .refl m
  split
  · exact .refl m
  · refine .set htl ⟨rfl, rfl, Nat.le_add_right _ _, Nat.le_succ _, fun x hx => ?_⟩
    rcases List.mem_append.1 hx with hx | hx
    · exact .inl ⟨x, hx, rfl, rfl⟩
    · obtain ⟨_, _, _, h6, _⟩ := copyL_mem _ _ _ _ hx
      exact .inr h6
theorem does_evo (m : Ml) (q : Rq) : Evo m (doesM m q).2.1 := by
  unfold doesM
  split
  · exact open_evo ..
  split
  · exact .same rfl (Nat.le_refl _) (Nat.le_refl _)
  split
  · exact .refl m
  split
  · exact create_evo ..
  split
  · exact remove_evo ..
  split
  · exact append_evo ..
  split
  · exact store_evo ..
  split
  · exact expunge_evo ..
  split
  · exact copy_evo ..
  · unfold sweepM
    split
    · exact .refl m
    · exact .same rfl (Nat.le_refl _) (Nat.le_refl _)
theorem apply_evo (m : Ml) (q : Rq) : Evo m (applyM m q).1 := by
  unfold applyM
  split
  · exact .refl m
  split
  · rw [fin_fst]; exact does_evo m q
  split
  · exact .refl m
  · split
    · exact .refl m
    · rename_i i _ _
      rw [fin_fst]
      have h := does_evo (seatPut m i q.number) q
      exact ⟨h.nv, h.ns, h.boxes⟩
/-- one mailbox a name -/
theorem box_uniq {m : Ml} (h : RightP m) {a b : Bx} (ha : a ∈ m.boxes) (hb : b ∈ m.boxes) (e : a.name = b.name) : a = b := by
  have h1 := find_in h ha
  have h2 := find_in h hb
  rw [e, h2] at h1
  exact (Option.some.inj h1).symm
/-- one letter a number -/
theorem let_uniq {l : List Lt} (h : l.Pairwise (fun x y => x.uid < y.uid)) {x y : Lt} (hx : x ∈ l) (hy : y ∈ l) (e : x.uid = y.uid) : x = y := by
  obtain ⟨i, hi, rfl⟩ := List.mem_iff_getElem.1 hx
  obtain ⟨j, hj, rfl⟩ := List.mem_iff_getElem.1 hy
  have hp := List.pairwise_iff_getElem.1 h
  rcases Nat.lt_trichotomy i j with c | c | c
  · have := hp i j hi hj c; omega
  · subst c; rfl
  · have := hp j i hj hi c; omega
/-- what the law asks of a mailbox that was there -/
theorem evo_old {m : Ml} (q : Rq) (h : RightP m) {a t : Bx} (ha : a ∈ m.boxes) (ht : findM (applyM m q).1 a.name = some t) : t.validity = a.validity ∧ a.next ≤ t.next ∧ a.high ≤ t.high := by
  have hm : t ∈ (applyM m q).1.boxes := List.mem_of_find?_eq_some ht
  have hn : t.name = a.name := by
    unfold findM at ht
    have h1 := List.find?_some ht
    exact toList_inj_ (eq_of_beq h1)
  rcases (apply_evo m q).boxes t hm with ⟨b, hb, he⟩ | ⟨-, hno⟩
  · have := box_uniq h hb ha (he.name.symm.trans hn)
    subst this
    exact ⟨he.val, he.next, he.high⟩
  · exact absurd hn.symm (hno a ha)
/-- what was noted holds of a state -/
def Noted (F : Notes) (m : Ml) : Prop := ∀ k h, F k = some h → h.size = 32 ∧ k.val < m.nv ∧ ∀ b ∈ m.boxes, b.name = k.box → b.validity = k.val → k.uid < b.next ∧ ∀ x ∈ b.letters, x.uid = k.uid → x.hash = h
theorem Noted.zero (m : Ml) : Noted note0 m := fun k h hh => absurd hh (by unfold note0; simp)
theorem Noted.step {F : Notes} {m : Ml} (q : Rq) (h : Noted F m) : Noted F (applyM m q).1 := by
  intro k hh hk
  obtain ⟨h0, h1, h2⟩ := h k hh hk
  have he := apply_evo m q
  refine ⟨h0, Nat.lt_of_lt_of_le h1 he.nv, fun t ht hn hv => ?_⟩
  rcases he.boxes t ht with ⟨b, hb, hE⟩ | ⟨h3, -⟩
  · obtain ⟨h4, h5⟩ := h2 b hb (hE.name.symm.trans hn) (hE.val.symm.trans hv)
    refine ⟨Nat.lt_of_lt_of_le h4 hE.next, fun x hx hu => ?_⟩
    rcases hE.lets x hx with ⟨z, hz, e1, e2⟩ | h6
    · rw [← e2]; exact h5 z hz (e1.trans hu)
    · omega
  · omega
theorem Noted.put {F : Notes} {m : Ml} (h : Noted F m) (hr : RightP m) {b : Bx} (hb : b ∈ m.boxes) {x : Lt} (hx : x ∈ b.letters) : Noted (notePut F ⟨b.name, b.validity, x.uid⟩ x.hash) m := by
  intro k hh hk
  unfold notePut at hk
  split at hk
  · rename_i e
    have hk := Option.some.inj hk
    subst e hk
    have hB := hr.boxes b hb
    refine ⟨(hB.lets x hx).hs, hB.v2, fun b2 hb2 hn hv => ?_⟩
    obtain rfl := box_uniq hr hb2 hb hn
    exact ⟨(hB.lets x hx).u2, fun y hy e => by rw [let_uniq hB.up hy hx e]⟩
  · exact h k hh hk
/-- what was noted of a letter that is there is its hash -/
theorem Noted.at_ {F : Notes} {m : Ml} (h : Noted F m) {b : Bx} (hb : b ∈ m.boxes) {x : Lt} (hx : x ∈ b.letters) {hh : ByteArray} (hF : F ⟨b.name, b.validity, x.uid⟩ = some hh) : hh = x.hash :=
  (((h _ _ hF).2.2 b hb rfl rfl).2 x hx rfl).symm
/-- nothing was noted of the next number -/
theorem Noted.next {F : Notes} {m : Ml} (h : Noted F m) {b : Bx} (hb : b ∈ m.boxes) : F ⟨b.name, b.validity, b.next⟩ = none := by
  cases hF : F ⟨b.name, b.validity, b.next⟩ with
  | none => rfl
  | some hh => exact absurd ((h _ _ hF).2.2 b hb rfl rfl).1 (Nat.lt_irrefl _)
/-- what an append answers that says yes -/
theorem append_good {m : Ml} {q : Rq} (h : RightP m) (hop : q.op = 6) (hc : (applyM m q).2.code = 0) : ∃ b ∈ m.boxes, findM m q.box = some b ∧ (applyM m q).2.uids = [b.next] := by
  have key : ∀ m2 : Ml, m2.boxes = m.boxes → (finM (doesM m2 q)).2.code = 0 → ∃ b ∈ m.boxes, findM m q.box = some b ∧ (finM (doesM m2 q)).2.uids = [b.next] := by
    intro m2 hb
    have hd : doesM m2 q = appendM m2 q oc0 := by unfold doesM; rw [hop]; simp
    rw [hd]
    unfold appendM
    cases hf : m2.boxes.findIdx? (fun x => x.name.toList == q.box.toList) with
    | none => exact fun h6 => absurd h6 (show ¬ (6 : Int) = 0 by decide)
    | some i =>
      obtain ⟨hi, he, -⟩ := List.findIdx?_eq_some_iff_getElem.1 hf
      have hnm : m2.boxes[i].name = q.box := toList_inj_ (eq_of_beq he)
      have hmem : m2.boxes[i] ∈ m.boxes := by rw [← hb]; exact List.getElem_mem hi
      have hfi : findM m q.box = some m2.boxes[i] := by rw [← hnm]; exact find_in h hmem
      dsimp only
      rw [List.getElem?_eq_getElem hi]
      dsimp only
      generalize m2.boxes[i] = b at hmem hfi ⊢
      split
      · exact fun h6 => absurd h6 (show ¬ (1 : Int) = 0 by decide)
      split
      · exact fun h6 => absurd h6 (show ¬ (15 : Int) = 0 by decide)
      split
      · exact fun h6 => absurd h6 (show ¬ (7 : Int) = 0 by decide)
      split
      · exact fun h6 => absurd h6 (show ¬ (13 : Int) = 0 by decide)
      · exact fun _ => ⟨b, hmem, hfi, rfl⟩
  unfold applyM at hc ⊢
  split at hc
  · exact absurd hc (show ¬ (1 : Int) = 0 by decide)
  · rename_i hh
    rw [if_neg hh]
    rw [if_neg (by rw [hop]; decide)] at hc ⊢
    split at hc
    · exact absurd hc (show ¬ (16 : Int) = 0 by decide)
    · rename_i i hi
      split at hc
      · exact absurd hc (show ¬ (14 : Int) = 0 by decide)
      · rename_i h2
        rw [if_neg h2]
        exact key (seatPut m i q.number) rfl hc
end Go.Proofs.YtdobbfjmlnlieaaGreat
