/- slices.SortFunc at a row of structs, whatever its type. settle: walked. settle: walked. create: walked. create: walked. mail.New, and the document's: walked. -/
import Derived.Test.YtcnebfmlelcliaaGreatB02
import Derived.Test.YtcnebfmlelcliaaGreatLay
import Derived.Test.YtcnebfmlelcliaaGreatB13
import Derived.Test.YtcnebfmlelcliaaGreatB03
namespace Go.Proofs.YtcnebfmlelcliaaGreat
open Go.RowKit Go.Maps Go.WideMaps Go.Sort Go.Lib

theorem put_all (F cur : Array Value) (hc : F.size ≤ cur.size) : (putCells id 0 F cur).toList = F.toList ++ cur.toList.drop F.size := by
  apply List.ext_getElem?
  intro t
  rw [Array.getElem?_toList]
  unfold putCells
  rw [Array.getElem?_mapIdx]
  by_cases ht : t < F.size
  · rw [Array.getElem?_eq_getElem (show t < cur.size by omega), List.getElem?_append_left (by simpa using ht), Array.getElem?_toList, Array.getElem?_eq_getElem ht]
    simp only [Option.map_some, Nat.zero_le, true_and, Nat.zero_add, Nat.sub_zero]
    rw [if_pos ht, getElem!_pos F t ht]; rfl
  · rw [List.getElem?_append_right (by simpa using ht), List.getElem?_drop, Array.getElem?_toList, show F.size + (t - F.toList.length) = t from by simp; omega]
    by_cases h2 : t < cur.size
    · rw [Array.getElem?_eq_getElem h2]
      simp only [Option.map_some, Nat.zero_le, true_and, Nat.zero_add]
      rw [if_neg ht]
    · rw [Array.getElem?_eq_none (by omega)]; rfl
theorem heap_sort {W : World} {g : Nat} {cur : Array Value} {t : TypeId} (h : W.heap[g]? = some (.cells cur t (0, 0))) (n : Nat) (F : Array Value) (os : Array Obj) :
    (grow (putRow id (Sort.ahead W n) g 0 F) os).heap[g]? = some (.cells (putCells id 0 F cur) t (0, 0)) ∧ W.heap.size ≤ (grow (putRow id (Sort.ahead W n) g 0 F) os).heap.size ∧ ∀ k, k < W.heap.size → k ≠ g → (grow (putRow id (Sort.ahead W n) g 0 F) os).heap[k]? = W.heap[k]? := by
  have hg := (Array.getElem?_eq_some_iff.1 h).1
  have hold : ∀ k, k < W.heap.size → (grow (putRow id (Sort.ahead W n) g 0 F) os).heap[k]? = (putRow id (Sort.ahead W n) g 0 F).heap[k]? := fun k hk => by
    show ((putRow id (Sort.ahead W n) g 0 F).heap ++ os)[k]? = _
    rw [Array.getElem?_append_left (by rw [Sort.size_putRow]; exact hk)]
  refine ⟨?_, ?_, fun k hk hne => ?_⟩
  · rw [hold g hg]
    show (W.heap.modify g _)[g]? = _
    rw [Array.getElem?_modify, if_pos rfl, h]; rfl
  · show _ ≤ ((putRow id (Sort.ahead W n) g 0 F).heap ++ os).size
    rw [Array.size_append, Sort.size_putRow]; exact Nat.le_add_right _ _
  · rw [hold k hk]
    show (W.heap.modify g _)[k]? = _
    rw [Array.getElem?_modify, if_neg (fun h => hne h.symm)]
section
variable {α : Type} [Inhabited α] (R : RT α)
theorem RT.flat (l : List α) : (flatK R.enc R.K l.toArray).toList = R.cells l := by
  apply List.ext_getElem?
  intro t
  have hl := R.cells_len l
  have hK := R.pos
  by_cases ht : t < l.length * R.K
  · obtain ⟨j, r, hr, rfl⟩ : ∃ j r, r < R.K ∧ t = j * R.K + r := ⟨t / R.K, t % R.K, Nat.mod_lt _ hK, by rw [Nat.mul_comm]; exact (Nat.div_add_mod t R.K).symm⟩
    have hj : j < l.length := by
      rcases Nat.lt_or_ge j l.length with h | h
      · exact h
      · have := Nat.mul_le_mul_right R.K h; omega
    rw [R.cells_get l j hj r hr]
    have h1 : (flatK R.enc R.K l.toArray).size = l.length * R.K := by simp
    have h2 := get_flatK R.enc R.K l.toArray (j * R.K + r) (by simpa using ht)
    rw [getElem!_pos _ _ (by omega)] at h2
    rw [Array.getElem?_toList, Array.getElem?_eq_getElem (by omega), h2]
    have e1 : (j * R.K + r) / R.K = j := by rw [Nat.mul_comm, Nat.mul_add_div hK, Nat.div_eq_of_lt hr, Nat.add_zero]
    have e2 : (j * R.K + r) % R.K = r := by rw [Nat.mul_comm, Nat.mul_add_mod, Nat.mod_eq_of_lt hr]
    rw [e1, e2, getElem!_pos _ j (by simpa using hj)]
    simp only [List.getElem_toArray]
    rw [getElem!_pos _ r (by rw [R.len]; exact hr)]
    exact (List.getElem?_eq_getElem (by rw [R.len]; exact hr)).symm
  · rw [List.getElem?_eq_none (by simp; omega), List.getElem?_eq_none (by omega)]
/-- the sort of a row that is not empty -/
theorem RT.sort {ρ : Go.Shelf.Ren} (L0 : SlLaysF0.n6 Tryz.prog ρ) (ht : ρ.t 24 = R.t) (hagg : ∀ w, (isAgg R.t).run Tryz.prog w = .ok true w) (hsz : ∀ w, (Go.sizeOf R.t).run Tryz.prog w = .ok R.K w) (cf : α → α → Int) (hO : SWO (ltOf cf)) (fn : FuncId) (eg : ∀ args w, (callFunc fn args).run Tryz.prog w = .ok (.enter fn args) w)
    (hcmp : ∀ x y W, Calls Tryz.prog fn #[.agg (R.enc x).toArray, .agg (R.enc y).toArray] W fun e w' => e = .returned (.int .i64 (cf x y)) ∧ ∃ q os', w' = grow (W.drewN q) os')
    {W0 W : World} {L : List Th} {v : Value} {l : List α} (hz : Zoo W0 W (R.row v l :: L)) (hpos : 0 < l.length) (hlen : l.length ≤ 1000) :
    Calls Tryz.prog (ρ.f 6) #[v, .func (.func fn) #[] #[]] W fun e w' => e = .returned (.tuple #[]) ∧ ∃ l' : List α, Hid (l'.Perm l ∧ l'.Pairwise (fun x y => ltOf cf y x = false)) ∧ Hid (Zoo W0 w' (R.row v l' :: L)) := by
  obtain ⟨F, ⟨ho, hF⟩, -, hact⟩ := hz.act 0 (R.row v l) rfl
  obtain ⟨g, cap, rest, rfl, hc, hgl, hrow, hback⟩ := ho.row hpos
  have hblk : W.heap[g]? = some (.cells (R.cells l ++ rest).toArray R.t (0, 0)) := hrow
  have hH : HoldsK R.enc R.K W g 0 l.toArray := by
    intro j hj
    have hj' : j < l.length * R.K := by simpa using hj
    refine ⟨?_, free_at hblk _⟩
    rw [Nat.zero_add, cell_at hblk]
    have e := R.flat l
    rw [List.getElem?_toArray, List.getElem?_append_left (by rw [R.cells_len]; exact hj'), ← e, Array.getElem?_toList, Array.getElem?_eq_getElem hj, getElem!_pos _ j hj]; rfl
  have hcon := AnyQ.slices_SortFunc L0 R.K (by rw [ht]; exact hagg) (by rw [ht]; exact hsz) R.enc R.len (fun x v hv => R.one x v hv) cf hO fn #[] g 0 cap l.toArray W eg (fun _ _ _ _ x y => hcmp x y _) hH hgl (by simp; omega)
  rw [show l.toArray.size = l.length from by simp] at hcon
  refine hcon.mono ?_
  rintro e w' ⟨rfl, d', n, os, hp, hs, rfl⟩
  have hds : d'.size = l.length := by simpa using hp.1
  have hfs : (flatK R.enc R.K d').size = l.length * R.K := by rw [size_flatK, hds]
  have hfr : (flatK R.enc R.K d').toList = R.cells d'.toList := by
    have := R.flat d'.toList
    rwa [Array.toArray_toList] at this
  obtain ⟨g1, g2, g3⟩ := heap_sort hblk n (flatK R.enc R.K d') os
  have hnow : putCells id 0 (flatK R.enc R.K d') (R.cells l ++ rest).toArray = (R.cells d'.toList ++ rest).toArray := by
    apply Array.toList_inj.1
    rw [put_all _ _ (by rw [hfs]; simp [R.cells_len]), hfr, hfs]
    show _ ++ (R.cells l ++ rest).drop _ = _
    rw [← R.cells_len, List.drop_left]
  have hdl : d'.toList.length = l.length := by simpa using hds
  rw [hnow] at g1
  have h2 := hback _ d'.toList l.length (Nat.le_refl _) hdl g1
  rw [List.take_of_length_le (by omega)] at h2
  refine ⟨rfl, d'.toList, Lib.hid ⟨?_, ?_⟩, Lib.hid (hact _ F _ ⟨h2, hF⟩ ⟨rfl, rfl, rfl, g2, fun k hk hn => g3 k hk (fun e => hn ((hF k).2 (by rw [e]; rfl))), fun k hk => .inl hk⟩)⟩
  · have h3 := hp.2.2
    have e1 : (d'.extract 0 l.length).toList = d'.toList := by rw [← hds, Array.extract_size]
    have e2 : (l.toArray.extract 0 l.length).toList = l := by simp
    rwa [e1, e2] at h3
  · refine List.pairwise_iff_getElem.2 fun i j hi hj hij => ?_
    have h3 := hs i j (Nat.zero_le _) hij (by simp at hj ⊢; omega)
    rw [getElem!_pos _ _ (by simpa using hj), getElem!_pos _ _ (by simpa using hi)] at h3
    simp only [Array.getElem_toList]
    exact h3
end
end Go.Proofs.YtcnebfmlelcliaaGreat
namespace Go.Proofs.YtcnebfmlelcliaaGreat
set_option linter.unusedSimpArgs false
open Go.RowKit Go.Maps Go.WideMaps Go.Sort Go.Lib
attribute [local go_sem ↓] Go.wp_at_zero Go.wp_at_succ

/-- a home whose node is no great number -/
abbrev BHm := {h : Hm // 0 ≤ h.node ∧ h.node ≤ 1000000}
instance : Inhabited BHm := ⟨⟨⟨0, 0, 0⟩, by decide⟩⟩
def hmB : RT BHm where
  enc := fun x => hmCells x.1
  K := 3
  t := hmT.t
  ts := hmT.ts
  z := hmT.z
  bytes := hmT.bytes
  len := fun _ => rfl
  one := fun x => hmT.one x.1
  pos := by decide
  und := hmT.und
  info := hmT.info
  zs := hmT.zs
  bb := hmT.bb
theorem hmB_cells (l : List BHm) : hmB.cells l = hmT.cells (l.map (·.1)) := by
  unfold RT.cells
  rw [List.flatMap_map]; rfl
theorem hmB_row (v : Value) (l : List BHm) : hmB.row v l = hmT.row v (l.map (·.1)) := by
  have : ∀ W, hmB.Own W v l ↔ hmT.Own W v (l.map (·.1)) := fun W => by
    unfold RT.Own
    rw [hmB_cells, List.length_map]; rfl
  unfold RT.row
  congr 1
  funext F W
  rw [this W]
theorem lift_hm : ∀ l : List Hm, (∀ h ∈ l, 0 ≤ h.node ∧ h.node ≤ 1000000) → ∃ l' : List BHm, l'.map (·.1) = l
  | [], _ => ⟨[], rfl⟩
  | p :: l, h => by
    obtain ⟨l', e⟩ := lift_hm l (fun q hq => h q (by simp [hq]))
    exact ⟨⟨p, h p (by simp)⟩ :: l', by simp [e]⟩
def cfH (x y : BHm) : Int := x.1.node - y.1.node
theorem ltH (x y : BHm) : ltOf cfH x y = decide (x.1.node < y.1.node) := by
  unfold ltOf cfH
  congr 1
  exact propext ⟨fun h => by omega, fun h => by omega⟩
theorem swoH : SWO (ltOf cfH) where
  irrefl x := by rw [ltH]; simp
  trans x y z h1 h2 := by rw [ltH] at *; simp at *; omega
  ntrans x y z h1 h2 := by rw [ltH] at *; simp at *; omega
set_option maxHeartbeats 1000000 in
theorem cmpH_any (x y : BHm) (W : World) : Calls Tryz.prog 90 #[.agg (hmB.enc x).toArray, .agg (hmB.enc y).toArray] W fun e w' => e = .returned (.int .i64 (cfH x y)) ∧ ∃ q os', w' = grow (W.drewN q) os' := by
  obtain ⟨x, hx⟩ := x
  obtain ⟨y, hy⟩ := y
  unfold cfH
  have hw : wrap64 (x.node - y.node) = x.node - y.node := IntWalk.wrap64_in _ (by omega)
  show Calls Tryz.prog 90 #[.agg #[.int .i64 x.node, .int .u64 x.life, .int .u64 x.try_], .agg #[.int .i64 y.node, .int .u64 y.life, .int .u64 y.try_]] W _
  go_enter Tryz.func90, Tryz.ntmps90
  go_wp2_with fail
  go_ret
  refine ⟨rfl, 0, _, by rw [alloc_eq_grow, alloc_eq_grow, grow_grow]; rfl⟩
/-- homes by their nodes -/
def hltB (a b : Hm) : Bool := decide (a.node < b.node)
theorem sortH_any {W0 W : World} {L : List Th} {v : Value} {l : List Hm} (hz : Zoo W0 W (hmT.row v l :: L)) (hb : ∀ h ∈ l, 0 ≤ h.node ∧ h.node ≤ 1000000) (hpos : 0 < l.length) (hlen : l.length ≤ 1000) :
    Calls Tryz.prog 89 #[v, .func (.func 90) #[] #[]] W fun e w' => e = .returned (.tuple #[]) ∧ ∃ l' : List Hm, Hid (l'.Perm l ∧ l'.Pairwise (fun x y => x.node ≤ y.node)) ∧ Hid (Zoo W0 w' (hmT.row v l' :: L)) := by
  obtain ⟨lb, rfl⟩ := lift_hm l hb
  rw [← hmB_row] at hz
  have eg : ∀ args w, (callFunc 90 args).run Tryz.prog w = .ok (.enter 90 args) w := enters_of Tryz.func90 (by kernel_rfl) rfl
  have hcon := hmB.sort Tryz.sortH rfl Tryz.isAgg108 Tryz.sizeOf108 cfH swoH 90 eg cmpH_any hz (by simpa using hpos) (by simpa using hlen)
  change Calls Tryz.prog 89 _ _ _ at hcon
  refine hcon.mono ?_
  rintro e w' ⟨rfl, l', h1, h2⟩
  refine ⟨rfl, l'.map (·.1), Lib.hid ⟨h1.out.1.map _, ?_⟩, Lib.hid (by rw [← hmB_row]; exact h2.out)⟩
  rw [List.pairwise_map]
  refine h1.out.2.imp (fun {x y} h => ?_)
  rw [ltH] at h
  have := of_decide_eq_false h
  omega
def settleM (m : Ml) (at_ : Int) (h : Hm) : Ml := if 0 ≤ at_ then { m with homes := m.homes.set at_.toNat h } else { m with homes := insS hltB h m.homes }
/-- a list that is sorted, a new one put among it -/
theorem ins_sorted {l : List Hm} (h : Hm) (hs : l.Pairwise (fun x y => x.node < y.node)) (hn : ∀ x ∈ l, x.node ≠ h.node) {l' : List Hm} (hp : l'.Perm (l ++ [h])) (hw : l'.Pairwise (fun x y => x.node ≤ y.node)) : l' = insS hltB h l := by
  have hmem : ∀ x, x ∈ insS hltB h l ↔ x = h ∨ x ∈ l := fun x => mem_insS hltB h x l
  have key : ∀ (l : List Hm), l.Pairwise (fun x y => x.node < y.node) → (∀ x ∈ l, x.node ≠ h.node) → (insS hltB h l).Pairwise (fun x y => x.node ≤ y.node) ∧ (insS hltB h l).Perm (l ++ [h]) := by
    intro l
    induction l with
    | nil => intro _ _; exact ⟨by simp [insS], by simp [insS]⟩
    | cons a r ih =>
      intro h1 h2
      have h1' := List.pairwise_cons.1 h1
      obtain ⟨i1, i2⟩ := ih h1'.2 (fun x hx => h2 x (by simp [hx]))
      unfold insS
      by_cases hlt : hltB h a = true
      · rw [if_pos hlt]
        unfold hltB at hlt
        have hlt' := of_decide_eq_true hlt
        refine ⟨List.pairwise_cons.2 ⟨fun y hy => ?_, h1.imp (fun h => by omega)⟩, (List.perm_append_singleton _ _).symm⟩
        rcases List.mem_cons.1 hy with rfl | hy
        · omega
        · have := h1'.1 y hy; omega
      · rw [if_neg hlt]
        have hge : a.node ≤ h.node := by
          unfold hltB at hlt
          simp at hlt
          exact hlt
        refine ⟨List.pairwise_cons.2 ⟨fun y hy => ?_, i1⟩, i2.cons a⟩
        rcases (mem_insS hltB h y r).1 hy with rfl | hy
        · exact hge
        · have := h1'.1 y hy; omega
  obtain ⟨k1, k2⟩ := key l hs hn
  have hinj : ∀ x ∈ l ++ [h], ∀ y ∈ l ++ [h], x.node = y.node → x = y := by
    intro x hx y hy hxy
    rcases List.mem_append.1 hx with hx | hx <;> rcases List.mem_append.1 hy with hy | hy
    · obtain ⟨i, hi, rfl⟩ := List.mem_iff_getElem.1 hx
      obtain ⟨j, hj, rfl⟩ := List.mem_iff_getElem.1 hy
      rcases Nat.lt_trichotomy i j with h3 | h3 | h3
      · have := List.pairwise_iff_getElem.1 hs i j hi hj h3; omega
      · subst h3; rfl
      · have := List.pairwise_iff_getElem.1 hs j i hj hi h3; omega
    · rw [List.mem_singleton.1 hy] at hxy; exact absurd hxy (hn x hx)
    · rw [List.mem_singleton.1 hx] at hxy; exact absurd hxy.symm (hn y hy)
    · rw [List.mem_singleton.1 hx, List.mem_singleton.1 hy]
  exact List.Perm.eq_of_pairwise (le := fun x y : Hm => x.node ≤ y.node) (fun x y hx hy h1 h2 => hinj x (hp.mem_iff.1 hx) y (k2.mem_iff.1 hy) (by omega)) hw k1 (hp.trans k2.symm)
end Go.Proofs.YtcnebfmlelcliaaGreat
namespace Go.Proofs.YtcnebfmlelcliaaGreat
set_option linter.unusedSimpArgs false
open Go.RowKit
attribute [local go_sem ↓] Go.wp_at_zero Go.wp_at_succ

def SetlRet (W0 : World) (wb : Nat) (k : WkV) (m' : Ml) (q : Rq) (y : RqV) (o : Oc) (E : List Th) (e : Ending) (w' : World) : Prop := ∃ ah ch, e = .returned (.tuple #[]) ∧ Hid (Zoo W0 w' (workL wb { k with ah := ah, ch := ch } m' q y o ++ E))
set_option maxRecDepth 100000 in
set_option maxHeartbeats 8000000 in
theorem settle_any {W0 W : World} {wb : Nat} {k : WkV} {m : Ml} {q : Rq} {y : RqV} {o : Oc} {E : List Th} (at_ : Int) (h : Hm) (hz : Zoo W0 W (workL wb k m q y o ++ E)) (hl : m.homes.length ≤ 100) (h1 : 0 ≤ at_ → at_.toNat < m.homes.length)
    (h2 : at_ < 0 → m.homes.Pairwise (fun x y => x.node < y.node) ∧ (∀ x ∈ m.homes, x.node ≠ h.node) ∧ (∀ x ∈ m.homes, 0 ≤ x.node ∧ x.node ≤ 1000000) ∧ 0 ≤ h.node ∧ h.node ≤ 1000000) :
    Calls Tryz.prog 63 #[.pointer (some ⟨wb, 0, none⟩), .int .i64 at_, .agg (hmT.enc h).toArray] W (SetlRet W0 wb k (settleM m at_ h) q y o E) := by
  have hz1 := (hz.newBox [.int .i64 h.node, .int .u64 h.life, .int .u64 h.try_].toArray 108).drew
  generalize hB : W.heap.size = B at hz1
  generalize hW1 : (W.alloc (.cells [.int .i64 h.node, .int .u64 h.life, .int .u64 h.try_].toArray 108)) = W1 at hz1
  obtain ⟨hb0, -⟩ := hz1.box 0 rfl
  obtain ⟨hbx, -⟩ := hz1.box 1 rfl
  have c0 : W1.drew.cell? ⟨B, 0, none⟩ = some (.int .i64 h.node) := box_cell hb0 0
  have c1 : W1.drew.cell? ⟨B, 1, none⟩ = some (.int .u64 h.life) := box_cell hb0 1
  have c2 : W1.drew.cell? ⟨B, 2, none⟩ = some (.int .u64 h.try_) := box_cell hb0 2
  have k2 : W1.drew.cell? ⟨wb, 2, none⟩ = some (.slice k.ah m.homes.length k.ch) := box_cell hbx 2
  clear hb0 hbx hz
  show Calls Tryz.prog 63 #[.pointer (some ⟨wb, 0, none⟩), .int .i64 at_, .agg #[.int .i64 h.node, .int .u64 h.life, .int .u64 h.try_]] W _
  by_cases hat : 0 ≤ at_
  · have hi := h1 hat
    obtain ⟨i, rfl⟩ : ∃ i : Nat, at_ = (i : Int) := ⟨at_.toNat, by omega⟩
    replace hi : i < m.homes.length := by simpa using hi
    have hm : settleM m (i : Int) h = { m with homes := m.homes.set i h } := by unfold settleM; rw [if_pos hat]; rfl
    rw [hm]
    obtain ⟨g, cap, hv, -, hcells, hfr, hz2⟩ := hz1.lay 5 rfl [h] i (by show i + 1 ≤ _; omega) (by omega)
    injection hv with hv1 hv2 hv3
    rw [hv1] at k2
    have hset : m.homes.take i ++ [h] ++ m.homes.drop (i + 1) = m.homes.set i h := by
      rw [List.append_assoc, List.set_eq_take_append_cons_drop, if_pos hi]; rfl
    replace hz2 : Zoo W0 (W1.drew.setCells g (i * 3) (hmCells h)) (workL wb k { m with homes := m.homes.set i h } q y o ++ E) := by
      have := hz2.tail
      rw [show ([h] : List Hm).length = 1 from rfl, hset] at this
      have e : workL wb k { m with homes := m.homes.set i h } q y o = (workL wb k m q y o).set 4 (hmT.row (.slice k.ah m.homes.length k.ch) (m.homes.set i h)) := by
        unfold workL stateL workCells
        dsimp only
        rw [List.length_set]; rfl
      rw [e]
      exact this
    have hi0 : (0 : Int) ≤ (i : Int) := by omega
    have hi1 : (i : Int) < (m.homes.length : Int) := by omega
    have hc3 : ∀ j, j < 3 → (W1.drew.cell? ⟨g, i * 3 + j, none⟩).isSome = true := fun j hj => by
      rw [show i * 3 + j = i * hmT.K + j from rfl, hcells i j hi hj, List.getElem?_eq_getElem (by rw [hmT.len]; exact hj)]; rfl
    replace hz2 := Lib.hid hz2
    replace hfr := Lib.hid hfr
    replace hc3 := Lib.hid hc3
    clear hcells hv2 hv3 hset hm h1 h2 hz1
    go_enter Tryz.func63, Tryz.ntmps63
    go_wp2_with fail
    refine wp_region_hd (fun w' => w'.cell? ⟨B, 0, none⟩ = some (.int .i64 h.node) ∧ w'.cell? ⟨B, 1, none⟩ = some (.int .u64 h.life) ∧ w'.cell? ⟨B, 2, none⟩ = some (.int .u64 h.try_) ∧ w'.cell? ⟨wb, 2, none⟩ = some (.slice (some ⟨g, 0, none⟩) m.homes.length k.ch)) 8 1 (by kernel_rfl) rfl ⟨by kernel_rfl, by kernel_rfl, by kernel_rfl, by decide⟩ ⟨c0, c1, c2, k2⟩ (fun hok hS0 => ?_)
    refine Hd.take (i := 0) (v := ?tv172) hok rfl (by kernel_rfl) (fun _ _ _ h => h) (Or.inl ⟨by rfl, ?ty172⟩) (by assumption) ?tr172
    case ty172 => (intro w hSw; (try dsimp only at hSw); go_simp; (try with_reducible rfl))
    try simp only [List.getElem_toArray, List.getElem_cons_succ, List.getElem_cons_zero, Act.put, List.setIfInBounds_toArray, List.set_cons_zero, List.set_cons_succ]
    refine Hd.take (i := 1) (v := ?tv173) hok rfl (by kernel_rfl) (fun _ _ _ h => h) (Or.inl ⟨by rfl, ?ty173⟩) (by assumption) ?tr173
    case ty173 => (intro w hSw; (try dsimp only at hSw); go_simp; (try with_reducible rfl))
    try simp only [List.getElem_toArray, List.getElem_cons_succ, List.getElem_cons_zero, Act.put, List.setIfInBounds_toArray, List.set_cons_zero, List.set_cons_succ]
    refine Hd.take (i := 2) (v := ?tv174) hok rfl (by kernel_rfl) (fun _ _ _ h => h) (Or.inl ⟨by rfl, ?ty174⟩) (by assumption) ?tr174
    case ty174 => (intro w hSw; (try dsimp only at hSw); go_simp; (try with_reducible rfl))
    try simp only [List.getElem_toArray, List.getElem_cons_succ, List.getElem_cons_zero, Act.put, List.setIfInBounds_toArray, List.set_cons_zero, List.set_cons_succ]
    refine Hd.take (i := 3) (v := ?tv175) hok rfl (by kernel_rfl) (fun _ _ _ h => h) (Or.inl ⟨by rfl, ?ty175⟩) (by assumption) ?tr175
    case ty175 => (intro w hSw; (try dsimp only at hSw); go_simp; (try with_reducible rfl))
    try simp only [List.getElem_toArray, List.getElem_cons_succ, List.getElem_cons_zero, Act.put, List.setIfInBounds_toArray, List.set_cons_zero, List.set_cons_succ]
    refine Hd.take (i := 4) (v := ?tv176) hok rfl (by kernel_rfl) (fun _ _ _ h => h) (Or.inl ⟨by rfl, ?ty176⟩) (by assumption) ?tr176
    case ty176 => (intro w hSw; (try dsimp only at hSw); go_simp; (try with_reducible rfl))
    try simp only [List.getElem_toArray, List.getElem_cons_succ, List.getElem_cons_zero, Act.put, List.setIfInBounds_toArray, List.set_cons_zero, List.set_cons_succ]
    refine Hd.take (i := 5) (v := ?tv177) hok rfl (by kernel_rfl) (fun _ _ _ h => h) (Or.inl ⟨by rfl, ?ty177⟩) (by assumption) ?tr177
    case ty177 => (intro w hSw; (try dsimp only at hSw); go_simp; (try with_reducible rfl))
    try simp only [List.getElem_toArray, List.getElem_cons_succ, List.getElem_cons_zero, Act.put, List.setIfInBounds_toArray, List.set_cons_zero, List.set_cons_succ]
    refine Hd.take (i := 6) (v := ?tv178) hok rfl (by kernel_rfl) (fun _ _ _ h => h) (Or.inl ⟨by rfl, ?ty178⟩) (by assumption) ?tr178
    case ty178 => (intro w hSw; (try dsimp only at hSw); go_simp; (try with_reducible rfl))
    try simp only [List.getElem_toArray, List.getElem_cons_succ, List.getElem_cons_zero, Act.put, List.setIfInBounds_toArray, List.set_cons_zero, List.set_cons_succ]
    refine Hd.take (i := 7) (v := ?tv179) hok rfl (by kernel_rfl) (fun _ _ _ h => h) (Or.inl ⟨by rfl, ?ty179⟩) (by assumption) ?tr179
    case ty179 => (intro w hSw; (try dsimp only at hSw); go_simp; (try with_reducible rfl))
    try simp only [List.getElem_toArray, List.getElem_cons_succ, List.getElem_cons_zero, Act.put, List.setIfInBounds_toArray, List.set_cons_zero, List.set_cons_succ]
    refine Hd.done (by kernel_rfl) ?_
    simp only [List.drop_succ_cons, List.drop_zero]
    refine wpList_store_cells rfl 108 (.tmp 15) (.tmp 14) rfl g (i * 3) (hmCells h) rfl rfl Tryz.sizeOf108 (hmT.one h) (fun j hj => hc3.out j hj) hfr.out ?_
    clear hok hS0 c0 c1 c2 k2 hc3 hfr
    go_wp2_with fail
    go_end0
    exact ⟨k.ah, k.ch, rfl, hz2⟩
  · obtain ⟨hs, hn, hb, hb2⟩ := h2 (by omega)
    have hat' : decide (0 ≤ at_) = false := decide_eq_false hat
    have hm : settleM m at_ h = { m with homes := insS hltB h m.homes } := by unfold settleM; rw [if_neg hat]
    rw [hm]
    replace hz1 := Lib.hid hz1
    replace hs := Lib.hid hs
    replace hn := Lib.hid hn
    replace hb := Lib.hid hb
    clear hm h1 h2
    go_enter Tryz.func63, Tryz.ntmps63
    go_wp2_with fail
    refine wp_region_hd (fun w' => w'.cell? ⟨B, 0, none⟩ = some (.int .i64 h.node) ∧ w'.cell? ⟨B, 1, none⟩ = some (.int .u64 h.life) ∧ w'.cell? ⟨B, 2, none⟩ = some (.int .u64 h.try_) ∧ w'.cell? ⟨wb, 2, none⟩ = some (.slice k.ah m.homes.length k.ch)) 9 4 (by kernel_rfl) rfl ⟨by kernel_rfl, by kernel_rfl, by kernel_rfl, by decide⟩ ⟨c0, c1, c2, k2⟩ (fun hok hS0 => ?_)
    generalize W1.drew = Wd at *
    refine Hd.take (i := 0) (v := ?tv180) hok rfl (by kernel_rfl) (fun _ _ _ h => h) (Or.inl ⟨by rfl, ?ty180⟩) (by assumption) ?tr180
    case ty180 => (intro w hSw; (try dsimp only at hSw); go_simp; (try with_reducible rfl))
    try simp only [List.getElem_toArray, List.getElem_cons_succ, List.getElem_cons_zero, Act.put, List.setIfInBounds_toArray, List.set_cons_zero, List.set_cons_succ]
    refine Hd.take (i := 1) (v := ?tv181) hok rfl (by kernel_rfl) (fun _ _ _ h => h) (Or.inl ⟨by rfl, ?ty181⟩) (by assumption) ?tr181
    case ty181 => (intro w hSw; (try dsimp only at hSw); go_simp; (try with_reducible rfl))
    try simp only [List.getElem_toArray, List.getElem_cons_succ, List.getElem_cons_zero, Act.put, List.setIfInBounds_toArray, List.set_cons_zero, List.set_cons_succ]
    refine Hd.take (i := 2) (v := ?tv182) hok rfl (by kernel_rfl) (fun _ _ _ h => h) (Or.inl ⟨by rfl, ?ty182⟩) (by assumption) ?tr182
    case ty182 => (intro w hSw; (try dsimp only at hSw); go_simp; (try with_reducible rfl))
    try simp only [List.getElem_toArray, List.getElem_cons_succ, List.getElem_cons_zero, Act.put, List.setIfInBounds_toArray, List.set_cons_zero, List.set_cons_succ]
    refine Hd.take (i := 3) (v := ?tv183) hok rfl (by kernel_rfl) (fun _ _ _ h => h) (Or.inl ⟨by rfl, ?ty183⟩) (by assumption) ?tr183
    case ty183 => (intro w hSw; (try dsimp only at hSw); go_simp; (try with_reducible rfl))
    try simp only [List.getElem_toArray, List.getElem_cons_succ, List.getElem_cons_zero, Act.put, List.setIfInBounds_toArray, List.set_cons_zero, List.set_cons_succ]
    refine Hd.take (i := 4) (v := ?tv184) hok rfl (by kernel_rfl) (fun _ _ _ h => h) (Or.inl ⟨by rfl, ?ty184⟩) (by assumption) ?tr184
    case ty184 => (intro w hSw; (try dsimp only at hSw); go_simp; (try with_reducible rfl))
    try simp only [List.getElem_toArray, List.getElem_cons_succ, List.getElem_cons_zero, Act.put, List.setIfInBounds_toArray, List.set_cons_zero, List.set_cons_succ]
    refine Hd.take (i := 5) (v := ?tv185) hok rfl (by kernel_rfl) (fun _ _ _ h => h) (Or.inl ⟨by rfl, ?ty185⟩) (by assumption) ?tr185
    case ty185 => (intro w hSw; (try dsimp only at hSw); go_simp; (try with_reducible rfl))
    try simp only [List.getElem_toArray, List.getElem_cons_succ, List.getElem_cons_zero, Act.put, List.setIfInBounds_toArray, List.set_cons_zero, List.set_cons_succ]
    refine Hd.take (i := 6) (v := ?tv186) hok rfl (by kernel_rfl) (fun _ _ _ h => h) (Or.inl ⟨by rfl, ?ty186⟩) (by assumption) ?tr186
    case ty186 => (intro w hSw; (try dsimp only at hSw); go_simp; (try with_reducible rfl))
    try simp only [List.getElem_toArray, List.getElem_cons_succ, List.getElem_cons_zero, Act.put, List.setIfInBounds_toArray, List.set_cons_zero, List.set_cons_succ]
    refine Hd.one (i := 7) rfl (by kernel_rfl) (fun K hK => ?_)
    go_simp
    have hzA := hz1.out.alloc (.cells (hmT.enc h).toArray 108)
    refine hK _ _ ⟨cell_old _ c0, cell_old _ c1, cell_old _ c2, cell_old _ k2⟩ ?_
    clear hK K
    try simp only [List.getElem_toArray, List.getElem_cons_succ, List.getElem_cons_zero, Act.put, List.setIfInBounds_toArray, List.set_cons_zero, List.set_cons_succ]
    refine Hd.one (i := 8) rfl (by kernel_rfl) (fun K hK => ?_)
    have hown1 := RT.Own.one hmT Wd h Wd.heap.size rfl
    obtain ⟨F, ⟨ho1, hF⟩, -, hact⟩ := hzA.act 5 (hmT.row (.slice k.ah m.homes.length k.ch) m.homes) rfl
    refine hmT.step_append rfl (.tmp 21) (.tmp 23) rfl _ _ m.homes [h] rfl rfl ho1 hown1.rd (by rw [List.length_singleton]; omega) ?_
    intro v8 w8 ho8 hg8 hat8
    have hz8 := hact (hmT.row v8 (m.homes ++ [h])) (fun k => v8.ownBlock = some k) w8 ⟨ho8, fun _ => Iff.rfl⟩ (grows_row hF hg8 hat8)
    obtain ⟨a8, c8, hv8⟩ := ho8.len
    subst hv8
    obtain ⟨hb0, -⟩ := hz8.box 0 rfl
    obtain ⟨hbx, -⟩ := hz8.box 1 rfl
    have t2 : w8.cell? ⟨wb, 2, none⟩ = some (.slice k.ah m.homes.length k.ch) := box_cell hbx 2
    have f2 := box_free hbx 2
    refine hK _ _ ⟨box_cell hb0 0, box_cell hb0 1, box_cell hb0 2, t2⟩ ?_
    clear hK K
    try simp only [List.getElem_toArray, List.getElem_cons_succ, List.getElem_cons_zero, Act.put, List.setIfInBounds_toArray, List.set_cons_zero, List.set_cons_succ]
    refine Hd.done (by kernel_rfl) ?_
    simp only [List.drop_succ_cons, List.drop_zero]
    have hz9 := hz8.setBox 1 rfl 2 (.slice a8 (m.homes ++ [h]).length c8)
    replace hz9 : Zoo W0 (w8.setCell ⟨wb, 2, none⟩ (.slice a8 (m.homes ++ [h]).length c8)) (workL wb { k with ah := a8, ch := c8 } { m with homes := m.homes ++ [h] } q y o ++ E) := hz9.tail
    generalize hwC : w8.setCell ⟨wb, 2, none⟩ (.slice a8 (m.homes ++ [h]).length c8) = wC at hz9
    have k2' : wC.cell? ⟨wb, 2, none⟩ = some (.slice a8 (m.homes ++ [h]).length c8) := box_cell (hz9.box 0 rfl).1 2
    have hfront := hz9.front 4 rfl
    have hsort := Lib.hid (sortH_any hfront (fun x hx => by
      rcases List.mem_append.1 hx with hx | hx
      · exact hb.out x hx
      · rw [List.mem_singleton.1 hx]; exact hb2) (by simp) (by simp; omega))
    replace hz9 := Lib.hid hz9
    have hlen : (m.homes ++ [h]).length = m.homes.length + 1 := by simp
    rw [hlen] at hwC k2' hsort
    clear hz8 hact ho8 hg8 hat8 ho1 hF hown1 hzA c0 c1 c2 k2 hok hS0 hz1 hfront hb0 hbx hB hW1
    rw [hlen]
    clear hlen
    go_wp2_with fail
    refine hsort.out.mono ?_
    rintro e w9 ⟨rfl, l', hl', hzS⟩
    have e1 := ins_sorted h hs.out hn.out hl'.out.1 hl'.out.2
    have hz10 := Zoo.back (L := workL wb { k with ah := a8, ch := c8 } { m with homes := m.homes ++ [h] } q y o ++ E) 4 (by show 4 < _ + 7; omega) hzS.out
    have hll : l'.length = m.homes.length + 1 := by rw [hl'.out.1.length_eq]; simp
    replace hz10 : Hid (Zoo W0 w9 (workL wb { k with ah := a8, ch := c8 } { m with homes := insS hltB h m.homes } q y o ++ E)) := Lib.hid (by
      rw [← e1]
      have e : workL wb { k with ah := a8, ch := c8 } { m with homes := l' } q y o = (workL wb { k with ah := a8, ch := c8 } { m with homes := m.homes ++ [h] } q y o).set 4 (hmT.row (.slice a8 (m.homes.length + 1) c8) l') := by
        unfold workL stateL workCells
        dsimp only
        rw [hll, List.length_append, List.length_singleton]; rfl
      rw [e]
      exact hz10)
    clear hsort hz9 hzS hl' e1 hll
    go_wp2_with fail
    go_end0
    exact ⟨a8, c8, rfl, hz10⟩
end Go.Proofs.YtcnebfmlelcliaaGreat
namespace Go.Proofs.YtcnebfmlelcliaaGreat
set_option linter.unusedSimpArgs false
open Go.RowKit Go.Maps Go.WideMaps Go.Sort Go.Lib
attribute [local go_sem ↓] Go.wp_at_zero Go.wp_at_succ

theorem bytes_tri (a b : List UInt8) : bytesBefore a b = true ∨ a = b ∨ bytesBefore b a = true := by
  by_cases h : a = b
  · exact .inr (.inl h)
  · rcases bytes_sto.tot a b h with h | h
    · exact .inl h
    · exact .inr (.inr h)
instance : Inhabited BxV := ⟨⟨⟨#[]⟩, 0, 0, 0, [], none, 0⟩⟩
def cfBx (x y : BxV) : Int := Lib.compareBytes x.name.data.toList y.name.data.toList
theorem ltBx (x y : BxV) : ltOf cfBx x y = bytesBefore x.name.data.toList y.name.data.toList := cmp_lt _ _
theorem swoBx : SWO (ltOf cfBx) where
  irrefl x := by rw [ltBx]; exact bytes_sto.irr _
  trans x y z h1 h2 := by rw [ltBx] at *; exact bytes_sto.trans _ _ _ h1 h2
  ntrans x y z h1 h2 := by
    rw [ltBx] at *
    cases h : bytesBefore x.name.data.toList z.name.data.toList with
    | false => rfl
    | true =>
      rcases bytes_tri x.name.data.toList y.name.data.toList with h3 | h3 | h3
      · rw [h3] at h1; cases h1
      · rw [h3] at h; rw [h] at h2; cases h2
      · have := bytes_sto.trans _ _ _ h3 h; rw [this] at h2; cases h2
set_option maxHeartbeats 1000000 in
theorem cmpBx_any (x y : BxV) (W : World) : Calls Tryz.prog 67 #[.agg (bxT.enc x).toArray, .agg (bxT.enc y).toArray] W fun e w' => e = .returned (.int .i64 (cfBx x y)) ∧ ∃ q os', w' = grow (W.drewN q) os' := by
  unfold cfBx
  show Calls Tryz.prog 67 #[.agg #[.string x.name, .int .u64 x.validity, .int .u64 x.next, .int .u64 x.high, .slice x.a x.rows.length x.c], .agg #[.string y.name, .int .u64 y.validity, .int .u64 y.next, .int .u64 y.high, .slice y.a y.rows.length y.c]] W _
  go_enter Tryz.func67, Tryz.ntmps67
  go_wp2_with fail
  refine (Tryz.strings_Compare x.name y.name _).mono ?_
  rintro e w3 ⟨rfl, rfl⟩
  go_wp2_with fail
  go_ret
  refine ⟨rfl, 0, _, by rw [alloc_eq_grow, alloc_eq_grow, grow_grow]; rfl⟩
theorem sortBx_any {W0 W : World} {L : List Th} {v : Value} {l : List BxV} (hz : Zoo W0 W (bxT.row v l :: L)) (hpos : 0 < l.length) (hlen : l.length ≤ 1000) :
    Calls Tryz.prog 66 #[v, .func (.func 67) #[] #[]] W fun e w' => e = .returned (.tuple #[]) ∧ ∃ l' : List BxV, Hid (l'.Perm l ∧ l'.Pairwise (fun x y => bytesBefore y.name.data.toList x.name.data.toList = false)) ∧ Hid (Zoo W0 w' (bxT.row v l' :: L)) := by
  have eg : ∀ args w, (callFunc 67 args).run Tryz.prog w = .ok (.enter 67 args) w := enters_of Tryz.func67 (by kernel_rfl) rfl
  have hcon := bxT.sort Tryz.sortB rfl Tryz.isAgg33 Tryz.sizeOf33 cfBx swoBx 67 eg cmpBx_any hz hpos hlen
  change Calls Tryz.prog 66 _ _ _ at hcon
  refine hcon.mono ?_
  rintro e w' ⟨rfl, l', h1, h2⟩
  refine ⟨rfl, l', Lib.hid ⟨h1.out.1, h1.out.2.imp (fun {x y} h => by rw [ltBx] at h; exact h)⟩, h2⟩
/-- mailboxes by their names -/
def bxltB (a b : Bx) : Bool := bytesBefore a.name.data.toList b.name.data.toList
theorem insBx_sorted {l : List Bx} (h : Bx) (hs : l.Pairwise (fun x y => bxltB x y = true)) (hn : ∀ x ∈ l, x.name.data.toList ≠ h.name.data.toList) {l' : List Bx} (hp : l'.Perm (l ++ [h])) (hw : l'.Pairwise (fun x y => bxltB y x = false)) : l' = insS bxltB h l := by
  have key : ∀ (l : List Bx), l.Pairwise (fun x y => bxltB x y = true) → (∀ x ∈ l, x.name.data.toList ≠ h.name.data.toList) → (insS bxltB h l).Pairwise (fun x y => bxltB y x = false) ∧ (insS bxltB h l).Perm (l ++ [h]) := by
    intro l
    have asym : ∀ x y : Bx, bxltB x y = true → bxltB y x = false := fun x y h1 => by
      cases h2 : bxltB y x with
      | false => rfl
      | true =>
        have := bytes_sto.trans _ _ _ h1 h2
        rw [bytes_sto.irr] at this
        cases this
    induction l with
    | nil => intro _ _; exact ⟨by simp [insS], by simp [insS]⟩
    | cons a r ih =>
      intro h1 h2
      have h1' := List.pairwise_cons.1 h1
      obtain ⟨i1, i2⟩ := ih h1'.2 (fun x hx => h2 x (by simp [hx]))
      unfold insS
      by_cases hlt : bxltB h a = true
      · rw [if_pos hlt]
        refine ⟨List.pairwise_cons.2 ⟨fun y hy => ?_, h1.imp (fun h => asym _ _ h)⟩, (List.perm_append_singleton _ _).symm⟩
        rcases List.mem_cons.1 hy with rfl | hy
        · exact asym _ _ hlt
        · exact asym _ _ (bytes_sto.trans _ _ _ hlt (h1'.1 y hy))
      · rw [if_neg hlt]
        refine ⟨List.pairwise_cons.2 ⟨fun y hy => ?_, i1⟩, i2.cons a⟩
        rcases (mem_insS bxltB h y r).1 hy with rfl | hy
        · simpa using hlt
        · exact asym _ _ (h1'.1 y hy)
  obtain ⟨k1, k2⟩ := key l hs hn
  have hinj : ∀ x ∈ l ++ [h], ∀ y ∈ l ++ [h], x.name.data.toList = y.name.data.toList → x = y := by
    intro x hx y hy hxy
    rcases List.mem_append.1 hx with hx | hx <;> rcases List.mem_append.1 hy with hy | hy
    · obtain ⟨i, hi, rfl⟩ := List.mem_iff_getElem.1 hx
      obtain ⟨j, hj, rfl⟩ := List.mem_iff_getElem.1 hy
      rcases Nat.lt_trichotomy i j with h3 | h3 | h3
      · have := List.pairwise_iff_getElem.1 hs i j hi hj h3
        unfold bxltB at this
        rw [hxy, bytes_sto.irr] at this; cases this
      · subst h3; rfl
      · have := List.pairwise_iff_getElem.1 hs j i hj hi h3
        unfold bxltB at this
        rw [hxy, bytes_sto.irr] at this; cases this
    · rw [List.mem_singleton.1 hy] at hxy; exact absurd hxy (hn x hx)
    · rw [List.mem_singleton.1 hx] at hxy; exact absurd hxy.symm (hn y hy)
    · rw [List.mem_singleton.1 hx, List.mem_singleton.1 hy]
  refine List.Perm.eq_of_pairwise (le := fun x y : Bx => bxltB y x = false) (fun x y hx hy h1 h2 => hinj x (hp.mem_iff.1 hx) y (k2.mem_iff.1 hy) ?_) hw k1 (hp.trans k2.symm)
  rcases bytes_tri x.name.data.toList y.name.data.toList with h3 | h3 | h3
  · unfold bxltB at h2; rw [h3] at h2; cases h2
  · exact h3
  · unfold bxltB at h1; rw [h3] at h1; cases h1
def createM (m : Ml) (q : Rq) (o : Oc) : Int × Ml × Oc :=
  if boxOk q.box.data.toList = false ∨ boxL q.box.data.toList ≠ q.box.data.toList then (1, m, o)
  else match m.boxes.findIdx? (fun x => x.name.toList == q.box.toList) with
    | some _ => (12, m, o)
    | none =>
      if 8 ≤ m.boxes.length then (7, m, o)
      else if 4294967295 < m.nv then (13, m, o)
      else (0, { m with boxes := insS bxltB ⟨q.box, m.nv, 1, 1, []⟩ m.boxes, nv := m.nv + 1 }, { o with validity := m.nv })
end Go.Proofs.YtcnebfmlelcliaaGreat
namespace Go.Proofs.YtcnebfmlelcliaaGreat
set_option linter.unusedSimpArgs false
open Go.RowKit
attribute [local go_sem ↓] Go.wp_at_zero Go.wp_at_succ

theorem str_ext {u v : ByteArray} (h : u.data.toList = v.data.toList) : u = v := by
  cases u; cases v
  congr 1
  exact Array.toList_inj.1 h
theorem letsL_perm {bs bs' : List BxV} (h : bs.Perm bs') : (letsL bs).Perm (letsL bs') := h.map _
set_option maxRecDepth 100000 in
set_option maxHeartbeats 8000000 in
theorem create_any {W0 W : World} {wb : Nat} {k : WkV} {m : Ml} {q : Rq} {y : RqV} {o : Oc} (hz : Zoo W0 W (workL wb k m q y o)) (hk : WkOk k m) (hl : m.boxes.length ≤ 500) (hbs : q.box.size ≤ maxLen) (hsort : m.boxes.Pairwise (fun x y => bxltB x y = true)) :
    Calls Tryz.prog 38 #[.pointer (some ⟨wb, 0, none⟩)] W (WkRet W0 wb q y (createM m q o)) := by
  have hbox := Lib.hid (box_any q.box hbs W)
  obtain ⟨hbx, -⟩ := hz.box 0 rfl
  have k12 : W.cell? ⟨wb, 12, none⟩ = some (.string q.box) := box_cell hbx 12
  replace hz := Lib.hid hz
  replace hk := Lib.hid hk
  replace hsort := Lib.hid hsort
  clear hbx
  go_enter Tryz.func38, Tryz.ntmps38
  go_wp2_with fail
  refine hbox.out.mono ?_
  rintro e w3 ⟨u, rfl, hu, hb3⟩
  have hz3 := hz.out.below hb3
  obtain ⟨hbx, -⟩ := hz3.box 0 rfl
  clear hbox k12 hb3 hz
  have k0 : w3.cell? ⟨wb, 0, none⟩ = some (.slice k.ab k.bs.length k.cb) := box_cell hbx 0
  have k1 : w3.cell? ⟨wb, 1, none⟩ = some (.int .u64 m.nv) := box_cell hbx 1
  have k2 : w3.cell? ⟨wb, 2, none⟩ = some (.slice k.ah m.homes.length k.ch) := box_cell hbx 2
  have k3 : w3.cell? ⟨wb, 3, none⟩ = some (.slice k.as_ m.seats.length k.cs) := box_cell hbx 3
  have k4 : w3.cell? ⟨wb, 4, none⟩ = some (.int .u64 m.ns) := box_cell hbx 4
  have k5 : w3.cell? ⟨wb, 5, none⟩ = some (.int .u64 m.sweeps) := box_cell hbx 5
  have k12 : w3.cell? ⟨wb, 12, none⟩ = some (.string q.box) := box_cell hbx 12
  cases hok : boxOk q.box.data.toList with
  | false =>
    have hr : Hid (createM m q o = (1, m, o)) := Lib.hid (by unfold createM; rw [if_pos (.inl hok)])
    replace hz3 := Lib.hid hz3
    clear hbx hu hok
    go_wp2_with fail
    go_ret
    exact WkRet.of hr.out ⟨k, rfl, hk, hz3⟩
  | true =>
    cases hne : (u.toList == q.box.toList) with
    | false =>
      have hr : Hid (createM m q o = (1, m, o)) := Lib.hid (by
        unfold createM
        rw [if_pos (.inr (fun h => by
          rw [eqS_of hu (Lib.hid rfl), h, beq_self_eq_true] at hne
          cases hne))])
      have hne' : (u.toList != q.box.toList) = true := by rw [bne, hne]; rfl
      replace hz3 := Lib.hid hz3
      clear hbx hu hok
      go_wp2_with fail
      go_ret
      exact WkRet.of hr.out ⟨k, rfl, hk, hz3⟩
    | true =>
      obtain rfl : u = q.box := str_ext (by
        rw [eqS_of hu (Lib.hid rfl)] at hne
        rw [hu.out]
        exact eq_of_beq hne)
      have hgood : Hid (¬ (boxOk q.box.data.toList = false ∨ boxL q.box.data.toList ≠ q.box.data.toList)) := Lib.hid (by
        rw [hok, ← hu.out]; simp)
      have hne' : (q.box.toList != q.box.toList) = false := by rw [bne, hne]; rfl
      have hat := Lib.hid (workAt hz3 hk.out (by omega) q.box)
      replace hz3 := Lib.hid hz3
      clear hbx hu hok
      go_wp2_with fail
      refine hat.out.mono ?_
      rintro e w4 ⟨rfl, hb4⟩
      have hz4 := hz3.out.below hb4.out
      obtain ⟨hbx, -⟩ := hz4.box 0 rfl
      clear hat hz3 hb4 hne hne' k0 k1 k2 k3 k4 k5 k12
      have k0 : w4.cell? ⟨wb, 0, none⟩ = some (.slice k.ab k.bs.length k.cb) := box_cell hbx 0
      have k1 : w4.cell? ⟨wb, 1, none⟩ = some (.int .u64 m.nv) := box_cell hbx 1
      have k25 : w4.cell? ⟨wb, 25, none⟩ = some (.int .u64 o.validity) := box_cell hbx 25
      have f25 := box_free hbx 25
      unfold atM
      rcases findIdx_cases (fun x : Bx => x.name.toList == q.box.toList) m.boxes with ⟨e1, e2⟩ | ⟨i, hi, e1, e2⟩
      · rw [e2]
        have hkl := Lib.hid hk.out.len
        by_cases h8 : 8 ≤ m.boxes.length
        · have hr : Hid (createM m q o = (7, m, o)) := Lib.hid (by unfold createM; rw [if_neg hgood.out, e1]; dsimp only; rw [if_pos h8])
          have h8' : (8 : Int) ≤ (k.bs.length : Int) := by rw [hkl.out]; omega
          replace hz4 := Lib.hid hz4
          clear hbx e1 e2
          go_wp2_with fail
          go_ret
          exact WkRet.of hr.out ⟨k, rfl, hk, hz4⟩
        · have h8' : decide ((8 : Int) ≤ (k.bs.length : Int)) = false := decide_eq_false (by rw [hkl.out]; omega)
          by_cases hnv : 4294967295 < m.nv
          · have hr : Hid (createM m q o = (13, m, o)) := Lib.hid (by unfold createM; rw [if_neg hgood.out, e1]; dsimp only; rw [if_neg h8, if_pos hnv])
            have hnv' : (4294967295 : Int) < (m.nv : Int) := by omega
            replace hz4 := Lib.hid hz4
            clear hbx e1 e2 h8
            go_wp2_with fail
            go_ret
            exact WkRet.of hr.out ⟨k, rfl, hk, hz4⟩
          · have hnv' : decide ((4294967295 : Int) < (m.nv : Int)) = false := decide_eq_false (by omega)
            have hnv3 : m.nv + 1 < 18446744073709551616 := by omega
            have hr : Hid (createM m q o = (0, { m with boxes := insS bxltB ⟨q.box, m.nv, 1, 1, []⟩ m.boxes, nv := m.nv + 1 }, { o with validity := m.nv })) := Lib.hid (by unfold createM; rw [if_neg hgood.out, e1]; dsimp only; rw [if_neg h8, if_neg hnv])
            have hfree : Hid (∀ x ∈ m.boxes, x.name.data.toList ≠ q.box.data.toList) := Lib.hid (fun x hx h => by
              have := List.findIdx?_eq_none_iff.1 e1 x hx
              rw [eqS_of (Lib.hid rfl) (Lib.hid rfl), h, beq_self_eq_true] at this
              cases this)
            have hz5 : Zoo W0 (w4.setCell ⟨wb, 25, none⟩ (.int .u64 m.nv)) (workL wb k m q y { o with validity := m.nv }) := hz4.setBox 0 rfl 25 (.int .u64 m.nv)
            generalize hw5 : w4.setCell ⟨wb, 25, none⟩ (.int .u64 m.nv) = w5 at hz5
            have hzd := hz5.drew
            obtain ⟨hbx5, -⟩ := hzd.box 0 rfl
            have s0 : w5.drew.cell? ⟨wb, 0, none⟩ = some (.slice k.ab k.bs.length k.cb) := box_cell hbx5 0
            have s1 : w5.drew.cell? ⟨wb, 1, none⟩ = some (.int .u64 m.nv) := box_cell hbx5 1
            clear hbx e1 e2 h8 hnv hz4 hz5 hbx5 hgood
            go_wp2_with fail
            clear k0 k1 k25 f25 h8' hnv'
            refine wp_region_hd (fun w' => w'.cell? ⟨wb, 0, none⟩ = some (.slice k.ab k.bs.length k.cb) ∧ w'.cell? ⟨wb, 1, none⟩ = some (.int .u64 m.nv)) 15 4 (by kernel_rfl) rfl ⟨by kernel_rfl, by kernel_rfl, by kernel_rfl, by decide⟩ ⟨s0, s1⟩ (fun hok hS0 => ?_)
            generalize w5.drew = Wd at *
            refine Hd.take (i := 0) (v := ?tv187) hok rfl (by kernel_rfl) (fun _ _ _ h => h) (Or.inl ⟨by rfl, ?ty187⟩) (by assumption) ?tr187
            case ty187 => (intro w hSw; (try dsimp only at hSw); go_simp; (try with_reducible rfl))
            try simp only [List.getElem_toArray, List.getElem_cons_succ, List.getElem_cons_zero, Act.put, List.setIfInBounds_toArray, List.set_cons_zero, List.set_cons_succ]
            refine Hd.take (i := 1) (v := ?tv188) hok rfl (by kernel_rfl) (fun _ _ _ h => h) (Or.inl ⟨by rfl, ?ty188⟩) (by assumption) ?tr188
            case ty188 => (intro w hSw; (try dsimp only at hSw); go_simp; (try with_reducible rfl))
            try simp only [List.getElem_toArray, List.getElem_cons_succ, List.getElem_cons_zero, Act.put, List.setIfInBounds_toArray, List.set_cons_zero, List.set_cons_succ]
            refine Hd.take (i := 2) (v := ?tv189) hok rfl (by kernel_rfl) (fun _ _ _ h => h) (Or.inl ⟨by rfl, ?ty189⟩) (by assumption) ?tr189
            case ty189 => (intro w hSw; (try dsimp only at hSw); go_simp; (try with_reducible rfl))
            try simp only [List.getElem_toArray, List.getElem_cons_succ, List.getElem_cons_zero, Act.put, List.setIfInBounds_toArray, List.set_cons_zero, List.set_cons_succ]
            refine Hd.take (i := 3) (v := ?tv190) hok rfl (by kernel_rfl) (fun _ _ _ h => h) (Or.inl ⟨by rfl, ?ty190⟩) (by assumption) ?tr190
            case ty190 => (intro w hSw; (try dsimp only at hSw); go_simp; (try with_reducible rfl))
            try simp only [List.getElem_toArray, List.getElem_cons_succ, List.getElem_cons_zero, Act.put, List.setIfInBounds_toArray, List.set_cons_zero, List.set_cons_succ]
            refine Hd.take (i := 4) (v := ?tv191) hok rfl (by kernel_rfl) (fun _ _ _ h => h) (Or.inl ⟨by rfl, ?ty191⟩) (by assumption) ?tr191
            case ty191 => (intro w hSw; (try dsimp only at hSw); go_simp; (try with_reducible rfl))
            try simp only [List.getElem_toArray, List.getElem_cons_succ, List.getElem_cons_zero, Act.put, List.setIfInBounds_toArray, List.set_cons_zero, List.set_cons_succ]
            refine Hd.take (i := 5) (v := ?tv192) hok rfl (by kernel_rfl) (fun _ _ _ h => h) (Or.inl ⟨by rfl, ?ty192⟩) (by assumption) ?tr192
            case ty192 => (intro w hSw; (try dsimp only at hSw); go_simp; (try with_reducible rfl))
            try simp only [List.getElem_toArray, List.getElem_cons_succ, List.getElem_cons_zero, Act.put, List.setIfInBounds_toArray, List.set_cons_zero, List.set_cons_succ]
            refine Hd.take (i := 6) (v := ?tv193) hok rfl (by kernel_rfl) (fun _ _ _ h => h) (Or.inl ⟨by rfl, ?ty193⟩) (by assumption) ?tr193
            case ty193 => (intro w hSw; (try dsimp only at hSw); go_simp; (try with_reducible rfl))
            try simp only [List.getElem_toArray, List.getElem_cons_succ, List.getElem_cons_zero, Act.put, List.setIfInBounds_toArray, List.set_cons_zero, List.set_cons_succ]
            refine Hd.take (i := 7) (v := ?tv194) hok rfl (by kernel_rfl) (fun _ _ _ h => h) (Or.inl ⟨by rfl, ?ty194⟩) (by assumption) ?tr194
            case ty194 => (intro w hSw; (try dsimp only at hSw); go_simp; (try with_reducible rfl))
            try simp only [List.getElem_toArray, List.getElem_cons_succ, List.getElem_cons_zero, Act.put, List.setIfInBounds_toArray, List.set_cons_zero, List.set_cons_succ]
            refine Hd.take (i := 8) (v := ?tv195) hok rfl (by kernel_rfl) (fun _ _ _ h => h) (Or.inl ⟨by rfl, ?ty195⟩) (by assumption) ?tr195
            case ty195 => (intro w hSw; (try dsimp only at hSw); go_simp; (try with_reducible rfl))
            try simp only [List.getElem_toArray, List.getElem_cons_succ, List.getElem_cons_zero, Act.put, List.setIfInBounds_toArray, List.set_cons_zero, List.set_cons_succ]
            refine Hd.take (i := 9) (v := ?tv196) hok rfl (by kernel_rfl) (fun _ _ _ h => h) (Or.inl ⟨by rfl, ?ty196⟩) (by assumption) ?tr196
            case ty196 => (intro w hSw; (try dsimp only at hSw); go_simp; (try with_reducible rfl))
            try simp only [List.getElem_toArray, List.getElem_cons_succ, List.getElem_cons_zero, Act.put, List.setIfInBounds_toArray, List.set_cons_zero, List.set_cons_succ]
            refine Hd.take (i := 10) (v := ?tv197) hok rfl (by kernel_rfl) (fun _ _ _ h => h) (Or.inl ⟨by rfl, ?ty197⟩) (by assumption) ?tr197
            case ty197 => (intro w hSw; (try dsimp only at hSw); go_simp; (try with_reducible rfl))
            try simp only [List.getElem_toArray, List.getElem_cons_succ, List.getElem_cons_zero, Act.put, List.setIfInBounds_toArray, List.set_cons_zero, List.set_cons_succ]
            refine Hd.take (i := 11) (v := ?tv198) hok rfl (by kernel_rfl) (fun _ _ _ h => h) (Or.inl ⟨by rfl, ?ty198⟩) (by assumption) ?tr198
            case ty198 => (intro w hSw; (try dsimp only at hSw); go_simp; (try with_reducible rfl))
            try simp only [List.getElem_toArray, List.getElem_cons_succ, List.getElem_cons_zero, Act.put, List.setIfInBounds_toArray, List.set_cons_zero, List.set_cons_succ]
            refine Hd.take (i := 12) (v := ?tv199) hok rfl (by kernel_rfl) (fun _ _ _ h => h) (Or.inl ⟨by rfl, ?ty199⟩) (by assumption) ?tr199
            case ty199 => (intro w hSw; (try dsimp only at hSw); go_simp; (try with_reducible rfl))
            try simp only [List.getElem_toArray, List.getElem_cons_succ, List.getElem_cons_zero, Act.put, List.setIfInBounds_toArray, List.set_cons_zero, List.set_cons_succ]
            refine Hd.one (i := 13) rfl (by kernel_rfl) (fun K hK => ?_)
            go_simp
            obtain ⟨nb, hnb⟩ : ∃ nb : BxV, (⟨q.box, m.nv, 1, 1, [], none, 0⟩ : BxV) = nb := ⟨_, rfl⟩
            have hcells : bxT.enc nb = [.string q.box, .int .u64 m.nv, .int .u64 1, .int .u64 1, .slice none 0 0] := by rw [← hnb]; rfl
            have hzA := hzd.alloc (.cells (bxT.enc nb).toArray 33)
            refine hK _ _ ⟨cell_old _ s0, cell_old _ s1⟩ ?_
            clear hK K
            try simp only [List.getElem_toArray, List.getElem_cons_succ, List.getElem_cons_zero, Act.put, List.setIfInBounds_toArray, List.set_cons_zero, List.set_cons_succ]
            refine Hd.one (i := 14) rfl (by kernel_rfl) (fun K hK => ?_)
            have hown1 := RT.Own.one bxT Wd nb Wd.heap.size rfl
            obtain ⟨F, ⟨ho1, hF⟩, -, hact⟩ := hzA.act 3 (bxT.row (.slice k.ab k.bs.length k.cb) k.bs) rfl
            rw [hcells] at hown1 ho1 hact hzA
            refine bxT.step_append rfl (.tmp 63) (.tmp 71) rfl _ _ k.bs [nb] rfl rfl ho1 hown1.rd (by rw [List.length_singleton]; have := hkl.out; omega) ?_
            intro v8 w8 ho8 hg8 hat8
            have hz8 := hact (bxT.row v8 (k.bs ++ [nb])) (fun k => v8.ownBlock = some k) w8 ⟨ho8, fun _ => Iff.rfl⟩ (grows_row hF hg8 hat8)
            obtain ⟨a8, c8, hv8⟩ := ho8.len
            subst hv8
            obtain ⟨hbx8, -⟩ := hz8.box 0 rfl
            have t0 : w8.cell? ⟨wb, 0, none⟩ = some (.slice k.ab k.bs.length k.cb) := box_cell hbx8 0
            have f0 := box_free hbx8 0
            refine hK _ _ ⟨t0, box_cell hbx8 1⟩ ?_
            clear hK K
            try simp only [List.getElem_toArray, List.getElem_cons_succ, List.getElem_cons_zero, Act.put, List.setIfInBounds_toArray, List.set_cons_zero, List.set_cons_succ]
            refine Hd.done (by kernel_rfl) ?_
            simp only [List.drop_succ_cons, List.drop_zero]
            have hz9 := (hz8.setBox 0 rfl 0 (.slice a8 (k.bs ++ [nb]).length c8)).nilRow ltT
            have hln : (k.bs ++ [nb]).length = k.bs.length + 1 := by simp
            rw [hln] at hz9
            generalize hwC : w8.setCell ⟨wb, 0, none⟩ (.slice a8 (k.bs.length + 1) c8) = wC at hz9
            have hz10 : Zoo W0 wC (bxT.row (.slice a8 (k.bs.length + 1) c8) (k.bs ++ [nb]) :: (workL wb { k with ab := a8, cb := c8, bs := k.bs ++ [nb] } m q y { o with validity := m.nv }).eraseIdx 3) := by
              refine hz9.perm ?_
              unfold workL stateL workCells
              dsimp only
              rw [hln]
              have e3 : letsL (k.bs ++ [nb]) = letsL k.bs ++ [ltT.row (.slice none 0 0) []] := by rw [← hnb]; unfold letsL; rw [List.map_append]; rfl
              rw [e3]
              show (ltT.row (.slice none 0 0) [] :: boxT _ _ _ :: u64T.row _ _ :: u64T.row _ _ :: bxT.row _ _ :: hmT.row _ _ :: stT.row _ _ :: flagsT _ :: letsL k.bs).Perm (bxT.row _ _ :: boxT _ _ _ :: u64T.row _ _ :: u64T.row _ _ :: hmT.row _ _ :: stT.row _ _ :: flagsT _ :: (letsL k.bs ++ [ltT.row (.slice none 0 0) []]))
              refine (List.perm_append_singleton _ _).symm.trans ?_
              show (boxT _ _ _ :: u64T.row _ _ :: u64T.row _ _ :: bxT.row _ _ :: hmT.row _ _ :: stT.row _ _ :: flagsT _ :: (letsL k.bs ++ [ltT.row (.slice none 0 0) []])).Perm _
              exact (List.perm_middle (l₁ := [_, _, _]) (l₂ := _ :: _ :: _ :: (letsL k.bs ++ [ltT.row (.slice none 0 0) []])))
            have hsrt := Lib.hid (sortBx_any hz10 (by simp) (by rw [hln]; have := hkl.out; omega))
            have k0 : wC.cell? ⟨wb, 0, none⟩ = some (.slice a8 (k.bs.length + 1) c8) := box_cell (hz9.box 1 rfl).1 0
            replace hz9 := Lib.hid hz9
            clear hz8 hact ho8 hg8 hat8 ho1 hF hown1 hzA s0 s1 hok hS0 hzd hbx8 hw5 hcells hz10
            rw [hln]
            clear hln
            go_wp2_with fail
            refine hsrt.out.mono ?_
            rintro e w9 ⟨rfl, l', hl', hzS⟩
            have hll : l'.length = k.bs.length + 1 := by rw [hl'.out.1.length_eq]; simp
            have hbox' : l'.map BxV.b = insS bxltB ⟨q.box, m.nv, 1, 1, []⟩ m.boxes := by
              refine insBx_sorted ⟨q.box, m.nv, 1, 1, []⟩ hsort.out hfree.out ?_ ?_
              · have := hl'.out.1.map BxV.b
                rw [List.map_append, hk.out.1, ← hnb] at this
                exact this
              · rw [List.pairwise_map]
                exact hl'.out.2
            have hz11 : Zoo W0 w9 (workL wb { k with ab := a8, cb := c8, bs := l' } m q y { o with validity := m.nv }) := by
              refine hzS.out.perm ?_
              unfold workL stateL workCells
              dsimp only
              rw [hll, List.length_append, List.length_singleton]
              show (bxT.row _ l' :: boxT _ _ _ :: u64T.row _ _ :: u64T.row _ _ :: hmT.row _ _ :: stT.row _ _ :: flagsT _ :: letsL (k.bs ++ [nb])).Perm (boxT _ _ _ :: u64T.row _ _ :: u64T.row _ _ :: bxT.row _ l' :: hmT.row _ _ :: stT.row _ _ :: flagsT _ :: letsL l')
              refine (List.perm_middle (l₁ := [boxT _ _ _, u64T.row _ _, u64T.row _ _]) (a := bxT.row _ l')).symm.trans ?_
              exact (List.Perm.append_left [boxT _ _ _, u64T.row _ _, u64T.row _ _, bxT.row _ l', hmT.row _ _, stT.row _ _, flagsT _] (letsL_perm hl'.out.1.symm))
            have hz12 : Zoo W0 (w9.setCell ⟨wb, 1, none⟩ (.int .u64 ((m.nv : Int) + 1))) (workL wb { k with ab := a8, cb := c8, bs := l' } { m with boxes := insS bxltB ⟨q.box, m.nv, 1, 1, []⟩ m.boxes, nv := m.nv + 1 } q y { o with validity := m.nv }) := hz11.setBox 0 rfl 1 (.int .u64 ((m.nv : Int) + 1))
            have hokF : WkOk { k with ab := a8, cb := c8, bs := l' } { m with boxes := insS bxltB ⟨q.box, m.nv, 1, 1, []⟩ m.boxes, nv := m.nv + 1 } := ⟨hbox', fun x hx => by
              rcases List.mem_append.1 (hl'.out.1.mem_iff.1 hx) with h | h
              · exact hk.out.2 x h
              · rw [List.mem_singleton.1 h, ← hnb]
                exact fun z hz => by cases hz⟩
            obtain ⟨hbx11, -⟩ := hz11.box 0 rfl
            have k1 : w9.cell? ⟨wb, 1, none⟩ = some (.int .u64 m.nv) := box_cell hbx11 1
            have f1 := box_free hbx11 1
            replace hz12 := Lib.hid hz12
            replace hokF := Lib.hid hokF
            clear hsrt hz9 hzS hl' hll hz11 hbx11 hbox' k0 hnb
            go_wp2_with fail
            go_ret
            exact WkRet.of hr.out ⟨_, rfl, hokF, hz12⟩
      · rw [e2]
        have hr : Hid (createM m q o = (12, m, o)) := Lib.hid (by unfold createM; rw [if_neg hgood.out, e1])
        have hi0 : (0 : Int) ≤ (i : Int) := by omega
        replace hz4 := Lib.hid hz4
        clear hbx e1 e2
        go_wp2_with fail
        go_ret
        exact WkRet.of hr.out ⟨k, rfl, hk, hz4⟩
end Go.Proofs.YtcnebfmlelcliaaGreat
namespace Go.Proofs.YtcnebfmlelcliaaGreat
set_option linter.unusedSimpArgs false
open Go.RowKit

def newBx : BxV := ⟨⟨#[73, 78, 66, 79, 88]⟩, 1, 1, 1, [], none, 0⟩
def newM : Ml := ⟨[newBx.b], 2, [], [], 1, 0⟩
/-- what a call hands back that reads as a state -/
def MlRet (W : World) (m : Ml) (e : Ending) (w' : World) : Prop := ∃ v, e = .returned v ∧ Hid (MlIn w' v m) ∧ Hid (Below W.heap.size W w')
theorem new_in (W : World) : MlIn (W.alloc (.cells (bxT.enc newBx).toArray 33)) (mlVal (.slice (some ⟨W.heap.size, 0, none⟩) 1 1) 2 (.slice none 0 0) (.slice none 0 0) 1 0) newM :=
  ⟨_, _, _, [newBx], rfl, rfl, ⟨(RT.Own.one bxT W newBx _ rfl).rd, fun y hy => by
    simp only [List.mem_singleton] at hy
    subst hy
    exact ⟨(RT.Own.nil ltT _).rd, fun z hz => by cases hz⟩⟩, (RT.Own.nil hmT _).rd, (RT.Own.nil stT _).rd⟩
set_option maxRecDepth 100000 in
set_option maxHeartbeats 4000000 in
theorem new_any (W : World) : Calls Tryz.prog 20 #[] W (MlRet W newM) := by
  have hz := ((Zoo.nil W).newBox #[.slice (some ⟨W.heap.size + 1, 0, none⟩) 1 1, .int .u64 2, .slice none 0 0, .slice none 0 0, .int .u64 1, .int .u64 0] 27).newBox #[.string ⟨#[73, 78, 66, 79, 88]⟩, .int .u64 1, .int .u64 1, .int .u64 1, .slice none 0 0] 33
  have h1 := new_in (W.alloc (.cells #[.slice (some ⟨W.heap.size + 1, 0, none⟩) 1 1, .int .u64 2, .slice none 0 0, .slice none 0 0, .int .u64 1, .int .u64 0] 27))
  rw [show (W.alloc (.cells #[.slice (some ⟨W.heap.size + 1, 0, none⟩) 1 1, .int .u64 2, .slice none 0 0, .slice none 0 0, .int .u64 1, .int .u64 0] 27)).heap.size = W.heap.size + 1 from by simp] at h1
  obtain ⟨hb, -⟩ := hz.box 1 rfl
  have h2 := Lib.hid hz.bel
  replace h1 := Lib.hid h1
  replace hb := Lib.hid hb
  clear hz
  go_enter Tryz.func20, Tryz.ntmps20
  go_wp2_with fail
  refine bodyPost_ret (results_cell_row rfl _ _ _ 27 _ (0, 0) _ rfl hb.out Tryz.underlying27 rfl rfl) rfl ?_
  exact ⟨_, rfl, h1, h2⟩
end Go.Proofs.YtcnebfmlelcliaaGreat
