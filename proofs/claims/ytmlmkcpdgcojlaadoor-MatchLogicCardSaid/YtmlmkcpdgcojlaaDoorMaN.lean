/- Keys in memory of the call's own: a literal key, and what is appended to it. -/
import Derived.Test.YtmlmkcpdgcojlaaDoorMaM
namespace Go.Proofs.YtmlmkcpdgcojlaaDoor
open Go.RowKit

def keysCells (ks : List KeyD) : List Value := ks.flatMap keyCells
theorem keysCells_len : ∀ (ks : List KeyD), (keysCells ks).length = ks.length * 6
  | [] => rfl
  | k :: r => by
    have := keysCells_len r
    unfold keysCells at this ⊢
    rw [List.flatMap_cons, List.length_append, this, List.length_cons]
    show 6 + _ = _
    omega
theorem keysCells_app (a b : List KeyD) : keysCells (a ++ b) = keysCells a ++ keysCells b := List.flatMap_append
theorem keysCells_get : ∀ (ks : List KeyD) (j : Nat) (hj : j < ks.length) (r : Nat), r < 6 → (keysCells ks)[j * 6 + r]? = (keyCells ks[j])[r]?
  | k :: l, 0, _, r, hr => by
    unfold keysCells
    rw [List.flatMap_cons, List.getElem?_append_left (by show _ < 6; omega)]
    simp
  | k :: l, j + 1, hj, r, hr => by
    have := keysCells_get l j (by simpa using hj) r hr
    unfold keysCells at this ⊢
    rw [List.flatMap_cons, List.getElem?_append_right (by show 6 ≤ _; omega), List.getElem_cons_succ, ← this]
    congr 1
    show (j + 1) * 6 + r - 6 = _
    omega
theorem keysCells_one : ∀ (ks : List KeyD), ∀ u ∈ keysCells ks, u.oneCell' = true := fun ks u hu => by
  obtain ⟨k, _, hk⟩ := List.mem_flatMap.1 hu
  simp only [keyCells, List.mem_cons, List.not_mem_nil, or_false] at hk
  rcases hk with rfl | rfl | rfl | rfl | rfl | rfl <;> rfl
/-- v holds the keys ks, in a row of the call's own from block B on -/
def OwnK (w : World) (B : Nat) (v : Value) (ks : List KeyD) : Prop := w.ownsRow B 36 6 v ks.length (keysCells ks)
theorem key_info : (Tryd.prog.info? 36).map (fun i => (i.zero, i.size, i.bytes)) = some (some (.agg #[.int .i64 0, .int .i64 0, .string ⟨#[]⟩, .string ⟨#[]⟩, .int .u64 0, .slice none 0 0]), 6, 80) := by kernel_rfl
theorem OwnK.rd {w : World} {B : Nat} {v : Value} {ks : List KeyD} (h : OwnK w B v ks) : Rd w v ks.length (keysCells ks) := Rd.of_own h
theorem Rd.keys {w : World} {v : Value} {ks : List KeyD} (h : Rd w v ks.length (keysCells ks)) : KeysIn w w.heap.size v ks := by
  obtain ⟨ao, cap, hv, h⟩ := h
  refine ⟨ao, cap, hv, ?_⟩
  rcases h with h | ⟨b, o, ha, hlt, hle, hc⟩
  · exact .inl (List.eq_nil_of_length_eq_zero h)
  · refine .inr ⟨b, o, ha, hlt, hle, fun j hj => ?_⟩
    have g := fun r (hr : r < 6) u (hu : (keyCells ks[j])[r]? = some u) => hc (j * 6 + r) u (by rw [keysCells_get ks j hj r hr]; exact hu)
    exact ⟨g 0 (by decide) _ rfl, g 1 (by decide) _ rfl, g 2 (by decide) _ rfl, g 3 (by decide) _ rfl, g 4 (by decide) _ rfl, g 5 (by decide) _ rfl⟩
theorem KeysIn.rd {w : World} {v : Value} {ks : List KeyD} (h : KeysIn w w.heap.size v ks) : Rd w v ks.length (keysCells ks) := by
  obtain ⟨ao, cap, hv, h⟩ := h
  refine ⟨ao, cap, hv, ?_⟩
  rcases h with h | ⟨b, o, ha, hlt, hle, hc⟩
  · exact .inl (by rw [h]; rfl)
  · refine .inr ⟨b, o, ha, hlt, hle, fun i u hu => ?_⟩
    have hi : i < ks.length * 6 := by
      have := (List.getElem?_eq_some_iff.1 hu).1
      rwa [keysCells_len] at this
    obtain ⟨j, r, hr, rfl⟩ : ∃ j r, r < 6 ∧ i = j * 6 + r := ⟨i / 6, i % 6, Nat.mod_lt _ (by decide), by omega⟩
    have hj : j < ks.length := by omega
    rw [keysCells_get ks j hj r hr] at hu
    obtain ⟨h0, h1, h2, h3, h4, h5⟩ := hc j hj
    match r, hr with
    | 0, _ => rw [← Option.some.inj hu]; exact h0
    | 1, _ => rw [← Option.some.inj hu]; exact h1
    | 2, _ => rw [← Option.some.inj hu]; exact h2
    | 3, _ => rw [← Option.some.inj hu]; exact h3
    | 4, _ => rw [← Option.some.inj hu]; exact h4
    | 5, _ => rw [← Option.some.inj hu]; exact h5
/-- a key as it is typed out -/
def litK (kind kids : Int) : KeyD := ⟨kind, kids, ⟨#[]⟩, ⟨#[]⟩, 0, none, 0, 0, hasL []⟩
theorem lit_set (w : World) (kind kids : Int) (h : kids ≤ 9223372036854775807) : SetIn w (litK kind kids) := ⟨h, [], rfl, ⟨none, 0, rfl, .inl rfl⟩, Nat.zero_le _⟩
theorem OwnK.one (w : World) (kind kids : Int) : OwnK (w.alloc (.cells #[.int .i64 kind, .int .i64 kids, .string ⟨#[]⟩, .string ⟨#[]⟩, .int .u64 0, .slice none 0 0] 36)) w.heap.size (.slice (some ⟨w.heap.size, 0, none⟩) 1 1) [litK kind kids] :=
  ⟨rfl, .inr ⟨w.heap.size, 1, _, rfl, Nat.le_refl _, heap_alloc_new w _, Nat.le_refl _, by unfold maxLen; omega, rfl, rfl⟩⟩
/-- 'append(v, u...)' of keys -/
theorem wpList_append_keys {w : World} {ops : Array Oper} {rest : List Oper} {o : Oper} {a : Act} {Q : Exit → Act → World → Prop} (hgd : o.guard = none) (s x : Operand)
    (ho : o.op = .call { callee := .builtin .append, args := #[s, x], argTypes := #[22, 22] }) (B : Nat) (v v2 : Value) (l m : List KeyD)
    (hs : a.eval s = v) (hx : a.eval x = v2) (hown : OwnK w B v l) (h2 : Rd w v2 m.length (keysCells m)) (hlen : l.length + m.length ≤ 1000) (hbase : B ≤ w.heap.size)
    (h : ∀ v' w', OwnK w' B v' (l ++ m) → Below B w w' → wpList Tryd.prog ops Q rest (a.put o.dst v') w') : wpList Tryd.prog ops Q (o :: rest) a w := by
  refine wpList_append_rd hgd s x 22 ho B 36 _ 6 80 Tryd.underlying22 key_info rfl (by decide) v v2 l.length m.length (keysCells l) (keysCells m) hs hx hown h2 (keysCells_len m) (keysCells_one m) (by unfold maxLen; omega) (by omega) hbase ?_
  intro v' w' ho' hg' _
  refine h v' w' ?_ ((Below.refl B w).grown hg' hbase (fun k hk => (World.ownsRow.lt hown k hk).1))
  unfold OwnK
  rw [List.length_append, keysCells_app]
  exact ho'
/-- 'append([]Key{{..}}, u...)' -/
theorem wpList_append_lit {W : World} {ops : Array Oper} {rest : List Oper} {o : Oper} {a : Act} {Q : Exit → Act → World → Prop} (hgd : o.guard = none) (s x : Operand)
    (ho : o.op = .call { callee := .builtin .append, args := #[s, x], argTypes := #[22, 22] }) (kind kids : Int) (v2 : Value) (m : List KeyD)
    (hs : a.eval s = .slice (some ⟨W.heap.size, 0, none⟩) 1 1) (hx : a.eval x = v2) (h2 : KeysIn W W.heap.size v2 m) (hlen : m.length ≤ 900)
    (h : ∀ v' w', OwnK w' W.heap.size v' (litK kind kids :: m) → Below W.heap.size W w' → wpList Tryd.prog ops Q rest (a.put o.dst v') w') :
    wpList Tryd.prog ops Q (o :: rest) a (W.alloc (.cells #[.int .i64 kind, .int .i64 kids, .string ⟨#[]⟩, .string ⟨#[]⟩, .int .u64 0, .slice none 0 0] 36)) := by
  have hb := (Below.refl _ W).alloc (Nat.le_refl _) (.cells #[.int .i64 kind, .int .i64 kids, .string ⟨#[]⟩, .string ⟨#[]⟩, .int .u64 0, .slice none 0 0] 36)
  exact wpList_append_keys hgd s x ho W.heap.size _ v2 [litK kind kids] m hs hx (OwnK.one W kind kids) ((h2.later hb).mono hb.size).rd (by simp; omega) hb.size (fun v' w' ho' hb' => h v' w' ho' (hb.trans hb'))
theorem OwnK.alloc {w : World} {B : Nat} {v : Value} {ks : List KeyD} (h : OwnK w B v ks) (o : Obj) : OwnK (w.alloc o) B v ks := World.ownsRow.alloc h o
/-- 'append(v, Key{..})' -/
theorem wpList_append_one {W : World} {ops : Array Oper} {rest : List Oper} {o : Oper} {a : Act} {Q : Exit → Act → World → Prop} (hgd : o.guard = none) (s x : Operand)
    (ho : o.op = .call { callee := .builtin .append, args := #[s, x], argTypes := #[22, 22] }) (B : Nat) (v : Value) (l : List KeyD) (kind kids : Int)
    (hs : a.eval s = v) (hx : a.eval x = .slice (some ⟨W.heap.size, 0, none⟩) 1 1) (hown : OwnK W B v l) (hlen : l.length ≤ 900) (hbase : B ≤ W.heap.size)
    (h : ∀ v' w', OwnK w' B v' (l ++ [litK kind kids]) → Below B W w' → wpList Tryd.prog ops Q rest (a.put o.dst v') w') :
    wpList Tryd.prog ops Q (o :: rest) a (W.alloc (.cells #[.int .i64 kind, .int .i64 kids, .string ⟨#[]⟩, .string ⟨#[]⟩, .int .u64 0, .slice none 0 0] 36)) :=
  wpList_append_keys hgd s x ho B v _ l [litK kind kids] hs hx (hown.alloc _) (OwnK.one W kind kids).rd (by simp; omega) (by simp; omega) (fun v' w' ho' hb' => h v' w' ho' (((Below.refl B W).alloc hbase _).trans hb'))
end Go.Proofs.YtmlmkcpdgcojlaaDoor
