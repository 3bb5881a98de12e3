/- All: walked, over the library's Clone and SortFunc. -/
import Derived.Test.YtjopbglimjhefaaNeR
import Derived.Test.YtjopbglimjhefaaLay
import Derived.Shelf.Small.Bits
namespace Go.Proofs.Ytjopbglimjhefaa
open Go.RowKit Go.Maps Go.WideMaps Go.Sort Go.Lib

/-- a packet whose number is no great one -/
abbrev BPk := {p : Pk // 0 ≤ p.id ∧ p.id ≤ 1000000}
instance : Inhabited BPk := ⟨⟨Pk.zero, by decide⟩⟩
def encB (p : BPk) : List Value := pkCells p.1
def cfB (x y : BPk) : Int := x.1.id - y.1.id
theorem ltB (x y : BPk) : ltOf cfB x y = decide (x.1.id < y.1.id) := by
  unfold ltOf cfB
  congr 1
  exact propext ⟨fun h => by omega, fun h => by omega⟩
theorem swoB : SWO (ltOf cfB) where
  irrefl x := by rw [ltB]; simp
  trans x y z h1 h2 := by rw [ltB] at *; simp at *; omega
  ntrans x y z h1 h2 := by rw [ltB] at *; simp at *; omega
set_option maxHeartbeats 1000000 in
theorem cmp_any (x y : BPk) (W : World) : Calls Try.prog 25 #[.agg (encB x).toArray, .agg (encB y).toArray] W fun e w' => e = .returned (.int .i64 (cfB x y)) ∧ ∃ q os', w' = grow (W.drewN q) os' := by
  obtain ⟨x, hx⟩ := x
  obtain ⟨y, hy⟩ := y
  unfold encB cfB
  have hw : wrap64 (x.id - y.id) = x.id - y.id := IntWalk.wrap64_in _ (by omega)
  show Calls Try.prog 25 #[.agg #[.int .i64 x.id, .int .i64 x.src, .int .i64 x.dst, .string x.data, .int .i64 x.due], .agg #[.int .i64 y.id, .int .i64 y.src, .int .i64 y.dst, .string y.data, .int .i64 y.due]] W _
  go_enter Try.func25, Try.ntmps25
  go_wp2_with fail
  go_ret
  refine ⟨rfl, 0, _, by rw [alloc_eq_grow, alloc_eq_grow, grow_grow]; rfl⟩
theorem flat_row (l : List BPk) : (flatK encB 5 l.toArray).toList = rowCells (l.map (·.1)) := by
  apply List.ext_getElem?
  intro t
  have hl : (rowCells (l.map (·.1))).length = l.length * 5 := by rw [rowCells_len, List.length_map]
  by_cases ht : t < l.length * 5
  · obtain ⟨j, r, hr, rfl⟩ : ∃ j r, r < 5 ∧ t = j * 5 + r := ⟨t / 5, t % 5, Nat.mod_lt _ (by decide), by omega⟩
    have hj : j < l.length := by omega
    rw [rowCells_get _ j (by rw [List.length_map]; exact hj) r hr]
    have h1 : (flatK encB 5 l.toArray).size = l.length * 5 := by simp
    have h2 := get_flatK encB 5 l.toArray (j * 5 + r) (by simpa using ht)
    rw [getElem!_pos _ _ (by omega)] at h2
    rw [Array.getElem?_toList, Array.getElem?_eq_getElem (by omega), h2]
    have e1 : (j * 5 + r) / 5 = j := by omega
    have e2 : (j * 5 + r) % 5 = r := by omega
    rw [e1, e2, getElem!_pos _ j (by simpa using hj)]
    simp only [List.getElem_map, List.getElem_toArray]
    have h5 : (encB l[j]).length = 5 := rfl
    rw [getElem!_pos _ r (by omega)]
    exact (List.getElem?_eq_getElem (by omega)).symm
  · rw [List.getElem?_eq_none (by simp; omega), List.getElem?_eq_none (by omega)]
theorem lift_b : ∀ l : List Pk, (∀ p ∈ l, 0 ≤ p.id ∧ p.id ≤ 1000000) → ∃ l' : List BPk, l'.map (·.1) = l
  | [], _ => ⟨[], rfl⟩
  | p :: l, h => by
    obtain ⟨l', e⟩ := lift_b l (fun q hq => h q (by simp [hq]))
    exact ⟨⟨p, h p (by simp)⟩ :: l', by simp [e]⟩
theorem heap_sort {W : World} {g : Nat} {cur : Array Value} {t : TypeId} (h : W.heap[g]? = some (.cells cur t (0, 0))) (n : Nat) (F : Array Value) (os : Array Obj) :
    (grow (putRow id (Sort.ahead W n) g 0 F) os).heap[g]? = some (.cells (putCells id 0 F cur) t (0, 0)) ∧ RowKit.Below g W (grow (putRow id (Sort.ahead W n) g 0 F) os) := by
  have hg := (Array.getElem?_eq_some_iff.1 h).1
  have hold : ∀ k, k < W.heap.size → (grow (putRow id (Sort.ahead W n) g 0 F) os).heap[k]? = (putRow id (Sort.ahead W n) g 0 F).heap[k]? := fun k hk => by
    show ((putRow id (Sort.ahead W n) g 0 F).heap ++ os)[k]? = _
    rw [Array.getElem?_append_left (by rw [Sort.size_putRow]; exact hk)]
  refine ⟨?_, ⟨rfl, rfl, rfl, ?_, fun k hk => ?_⟩⟩
  · rw [hold g hg]
    show (W.heap.modify g _)[g]? = _
    rw [Array.getElem?_modify, if_pos rfl, h]; rfl
  · show _ ≤ ((putRow id (Sort.ahead W n) g 0 F).heap ++ os).size
    rw [Array.size_append, Sort.size_putRow]; exact Nat.le_add_right _ _
  · rw [hold k (by omega)]
    show (W.heap.modify g _)[k]? = _
    rw [Array.getElem?_modify, if_neg (by omega)]
theorem put_take (F cur : Array Value) (n : Nat) (hF : F.size = n) (hc : n ≤ cur.size) : (putCells id 0 F cur).size = cur.size ∧ (putCells id 0 F cur).toList.take n = F.toList := by
  refine ⟨by simp [putCells], ?_⟩
  apply List.ext_getElem?
  intro t
  by_cases ht : t < n
  · rw [List.getElem?_take_of_lt ht, Array.getElem?_toList, Array.getElem?_toList]
    unfold putCells
    rw [Array.getElem?_mapIdx, Array.getElem?_eq_getElem (show t < cur.size by omega), Array.getElem?_eq_getElem (show t < F.size by omega)]
    simp only [Option.map_some, Nat.zero_le, true_and, Nat.zero_add, Nat.sub_zero]
    rw [if_pos (by omega), getElem!_pos F t (by omega)]; rfl
  · rw [List.getElem?_eq_none (by simp; omega), List.getElem?_eq_none (by simp; omega)]
/-! the sort of none -/
theorem insertion0 (fv : Value) (W : World) : Calls Try.prog 47 #[.slice none 0 0, .int .i64 0, .int .i64 0, fv] W fun e w' => e = .returned (.tuple #[]) ∧ w' = W := by
  go_enter Try.func47, Try.ntmps47
  go_wp2_with fail
  go_loopw [8] (fun v8 wr => v8 = .int .i64 1 ∧ wr = W) (fun _ _ => 0)
  case atStart => exact ⟨rfl, rfl⟩
  case round =>
    obtain ⟨rfl, rfl⟩ := hrel
    go_wp2_with fail
    go_end0
    exact ⟨rfl, rfl⟩
theorem bits0 (W : World) : Calls Try.prog 39 #[.int .u64 0] W fun e w' => ∃ x : Int, e = .returned (.int .i64 x) ∧ w' = W :=
  (Any.bits_Len (SlLaysF0.n15.bits { Try.sortP with }) 0 W (by omega) (by omega)).mono fun _ _ ⟨he, hw⟩ => ⟨_, he, hw⟩
set_option maxRecDepth 100000 in
set_option maxHeartbeats 4000000 in
theorem pdq0 (x : Int) (fv : Value) (W : World) : Calls Try.prog 38 #[.slice none 0 0, .int .i64 0, .int .i64 0, .int .i64 x, fv] W fun e w' => e = .returned (.tuple #[]) ∧ w' = W := by
  have hi := Lib.hid (insertion0 fv W)
  go_enter Try.func38, Try.ntmps38
  go_wp2_with fail
  go_loopw [1, 2, 3, 10, 11] (fun v1 v2 v3 v10 v11 wr => v1 = .int .i64 0 ∧ v2 = .int .i64 0 ∧ wr = W) (fun _ _ _ _ _ _ => 0)
  case atStart => exact ⟨rfl, rfl, rfl⟩
  case round =>
    obtain ⟨rfl, rfl, rfl⟩ := hrel
    go_wp2_with fail
    refine hi.out.mono ?_
    rintro e w1 ⟨rfl, rfl⟩
    go_wp2_with fail
    (try simp only [Exit.inBlock, Exit.then])
    refine bodyPost_ret (results_none rfl _ _ _) rfl ?_
    exact ⟨rfl, rfl⟩
set_option maxHeartbeats 1000000 in
theorem sort0 (fv : Value) (W : World) : Calls Try.prog 24 #[.slice none 0 0, fv] W fun e w' => e = .returned (.tuple #[]) ∧ w' = W := by
  have hb := Lib.hid (bits0 W)
  have hp := Lib.hid (fun x => pdq0 x fv W)
  go_enter Try.func24, Try.ntmps24
  go_wp2_with fail
  refine hb.out.mono ?_
  rintro e w1 ⟨x, rfl, rfl⟩
  go_wp2_with fail
  refine (hp.out x).mono ?_
  rintro e w1 ⟨rfl, rfl⟩
  go_wp2_with fail
  go_end0
  exact ⟨rfl, rfl⟩
/-- the sort of packets by their numbers -/
theorem sortP_any (v : Value) (l : List Pk) (B : Nat) (W : World) (h : W.ownsRow B 30 5 v l.length (rowCells l)) (hb : ∀ p ∈ l, 0 ≤ p.id ∧ p.id ≤ 1000000) (hlen : l.length ≤ 1000) :
    Calls Try.prog 24 #[v, .func (.func 25) #[] #[]] W fun e w' => e = .returned (.tuple #[]) ∧ ∃ l' : List Pk, Hid (l'.Perm l ∧ l'.Pairwise (fun p q => p.id ≤ q.id)) ∧ Hid (w'.ownsRow B 30 5 v l.length (rowCells l')) ∧ Hid (RowKit.Below B W w') := by
  obtain ⟨h1, ⟨rfl, h2⟩ | ⟨g, cap, cur, rfl, hBg, hblk, hcap, hmx, hsz, htake⟩⟩ := h
  · have e : l = [] := List.eq_nil_of_length_eq_zero h2
    subst e
    refine (sort0 _ W).mono ?_
    rintro e w' ⟨rfl, rfl⟩
    exact ⟨rfl, [], Lib.hid ⟨List.Perm.refl _, List.Pairwise.nil⟩, Lib.hid ⟨rfl, .inl ⟨rfl, rfl⟩⟩, Lib.hid (Below.refl _ _)⟩
  · obtain ⟨lb, rfl⟩ := lift_b l hb
    rw [List.length_map] at h1 hcap htake hlen ⊢
    have hgl := (Array.getElem?_eq_some_iff.1 hblk).1
    have hH : HoldsK encB 5 W g 0 lb.toArray := by
      intro j hj
      have hj' : j < lb.length * 5 := by simpa using hj
      refine ⟨?_, free_of hblk _⟩
      rw [Nat.zero_add, cell_at hblk]
      have e : (flatK encB 5 lb.toArray).toList[j]? = (rowCells (lb.map (·.1)))[j]? := by rw [flat_row lb]
      rw [← htake, List.getElem?_take_of_lt hj', Array.getElem?_toList, Array.getElem?_toList] at e
      rw [← e, Array.getElem?_eq_getElem hj, getElem!_pos (flatK encB 5 lb.toArray) j hj]; rfl
    have eg : ∀ args w, (callFunc 25 args).run Try.prog w = .ok (.enter 25 args) w := enters_of Try.func25 (by kernel_rfl) rfl
    have hcon := AnyQ.slices_SortFunc Try.sortP 5 Try.isAgg30 Try.sizeOf30 encB (fun _ => rfl) (fun x v hv => rowCells_one1 x.1 v hv) cfB swoB 25 #[] g 0 cap lb.toArray W eg (fun _ _ _ _ x y => cmp_any x y _) hH hgl (by simp; omega)
    change Calls Try.prog 24 _ _ _ at hcon
    refine hcon.mono ?_
    rintro e w' ⟨rfl, d', n, os, hp, hs, rfl⟩
    have hds : d'.size = lb.length := by simpa using hp.1
    obtain ⟨g1, g2⟩ := heap_sort hblk n (flatK encB 5 d') os
    have hfs : (flatK encB 5 d').size = lb.length * 5 := by rw [size_flatK, hds]
    have hfr : (flatK encB 5 d').toList = rowCells (d'.toList.map (·.1)) := by
      have := flat_row d'.toList
      rwa [Array.toArray_toList] at this
    obtain ⟨t1, t2⟩ := put_take (flatK encB 5 d') cur (lb.length * 5) hfs (by rw [hsz]; exact Nat.mul_le_mul_right 5 hcap)
    refine ⟨rfl, d'.toList.map (·.1), Lib.hid ⟨?_, ?_⟩, Lib.hid ⟨?_, .inr ⟨g, cap, _, rfl, hBg, g1, hcap, hmx, by rw [t1, hsz], by rw [t2, hfr]⟩⟩, Lib.hid (g2.mono hBg)⟩
    · refine List.Perm.map _ ?_
      have h3 := hp.2.2
      rw [show lb.toArray.size = lb.length by simp] at h3
      have e1 : (d'.extract 0 lb.length).toList = d'.toList := by rw [← hds, Array.extract_size]
      have e2 : (lb.toArray.extract 0 lb.length).toList = lb := by simp
      rwa [e1, e2] at h3
    · rw [List.pairwise_map]
      refine List.pairwise_iff_getElem.2 fun i j hi hj hij => ?_
      have h3 := hs i j (Nat.zero_le _) hij (by simp at hj ⊢; omega)
      rw [ltB, getElem!_pos _ _ (by simpa using hj), getElem!_pos _ _ (by simpa using hi)] at h3
      simp only [Array.getElem_toList]
      have := of_decide_eq_false h3
      omega
    · rw [rowCells_len, List.length_map]; simp [hds]
theorem clone_any (v : Value) (l : List Pk) (W : World) (h : OwnP W v l) (hlen : l.length ≤ 1000) :
    Calls Try.prog 23 #[v] W fun e w' => ∃ v', e = .returned v' ∧ Hid (w'.ownsRow W.heap.size 30 5 v' l.length (rowCells l)) ∧ Hid (RowKit.Below W.heap.size W w') := by
  obtain ⟨h1, ⟨rfl, h2⟩ | ⟨g, cap, cur, rfl, hBg, hblk, hcap, hmx, hsz, htake⟩⟩ := h
  · have e : l = [] := List.eq_nil_of_length_eq_zero h2
    subst e
    refine (show Calls Try.prog 23 _ _ _ from AnyE.slices_Clone_nil Try.cloneP 0 0 W).mono ?_
    rintro e w' ⟨rfl, rfl⟩
    exact ⟨_, rfl, Lib.hid (World.ownsRow_nil _ _ _ _), Lib.hid (Below.refl _ _)⟩
  · obtain ⟨i0, hi0, hz, hz1, hz2⟩ := info_parts pk_info
    refine (show Calls Try.prog 23 _ _ _ from AnyE.slices_Clone Try.cloneP i0 _ 5 48 hi0 hz hz1 hz2 rfl (by decide) Try.sizeOf30 g 0 l.length cap (rowCells l) W h1 (by unfold maxLen; omega) (by omega) (fun j u hu => ?_) (rowCells_one l)).mono ?_
    · have hj := (List.getElem?_eq_some_iff.1 hu).1
      rw [Nat.zero_add, cell_at hblk, ← Array.getElem?_toList, ← hu, ← htake, List.getElem?_take_of_lt (by rw [← h1]; exact hj)]
    · rintro e w' ⟨v', rfl, h3, -, h4⟩
      exact ⟨v', rfl, Lib.hid h3, Lib.hid h4⟩
/-- All -/
theorem all_zoo {W0 W : World} {L : List Th} (h : Zoo W0 W L) (i b : Nat) (s : Ns) (hi : L[i]? = some (netT b s)) (hl : s.l.length ≤ 512) (hid : ∀ p ∈ s.l, 0 ≤ p.id ∧ p.id ≤ 1000000) :
    Calls Try.prog 12 #[.pointer (some ⟨b, 0, none⟩)] W fun e w' => ∃ (v : Value) (l' : List Pk), e = .returned v ∧ Hid (l'.Perm s.l ∧ l'.Pairwise (fun p q => p.id ≤ q.id)) ∧ Zoo W0 w' (rowP v l' :: L) := by
  obtain ⟨F, ⟨m, v, l, hn, hh, hp, hF⟩, hlow, hact⟩ := h.act i _ hi
  have hlen := hp.length_eq
  have hc := Lib.hid (clone_any v l W hn.fl.2.2.1 (by omega))
  have hsort := Lib.hid (fun v' W' (ho : W'.ownsRow W.heap.size 30 5 v' l.length (rowCells l)) => sortP_any v' l W.heap.size W' ho (fun p hq => hid p (hp.mem_iff.1 hq)) (by omega))
  have c0 := hn.fl.1
  have main : Calls Try.prog 12 #[.pointer (some ⟨b, 0, none⟩)] W fun e w' => ∃ (v : Value) (l' : List Pk), e = .returned v ∧ Hid (l'.Perm l ∧ l'.Pairwise (fun p q => p.id ≤ q.id)) ∧ Hid (w'.ownsRow W.heap.size 30 5 v l.length (rowCells l')) ∧ Hid (RowKit.Below W.heap.size W w') := by
    clear hact hlow hF hn hh h
    go_enter Try.func12, Try.ntmps12
    go_wp2_with fail
    refine hc.out.mono ?_
    rintro e w1 ⟨v', rfl, ho, hb⟩
    have hs2 := Lib.hid (hsort.out v' w1 ho.out)
    clear hsort hc ho
    go_wp2_with fail
    refine hs2.out.mono ?_
    rintro e w2 ⟨rfl, l', hl', ho', hb'⟩
    go_wp2_with fail
    go_ret
    exact ⟨_, l', rfl, hl', ho', Lib.hid (hb.out.trans hb'.out)⟩
  refine main.mono ?_
  rintro e w' ⟨v', l', rfl, hl', ho', hb'⟩
  refine ⟨v', l', rfl, Lib.hid ⟨hl'.out.1.trans hp, hl'.out.2⟩, h.more hb'.out (rowP v' l') (fun k => v'.ownBlock = some k) ⟨?_, fun _ => Iff.rfl⟩ (fun k hk => (World.ownsRow.lt ho'.out k hk).1)⟩
  have := ho'.out
  rw [← hl'.out.1.length_eq] at this
  refine ⟨this.1, ?_⟩
  rcases this.2 with h1 | ⟨g, cap, cur, h1, h2, h3⟩
  · exact .inl h1
  · exact .inr ⟨g, cap, cur, h1, Nat.zero_le _, h3⟩
end Go.Proofs.Ytjopbglimjhefaa
