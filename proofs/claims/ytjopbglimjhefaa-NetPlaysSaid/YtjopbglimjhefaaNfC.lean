/- The document's net: at, out: walked. -/
import Derived.Test.YtjopbglimjhefaaNfB
import Derived.Deep.RegionHeld3
import Derived.Deep.AppendLies
import Derived.Deep.DrawnRows
namespace Go.Proofs.Ytjopbglimjhefaa
open Go.RowKit Go.Maps Go.WideMaps
attribute [local go_sem ↓] Go.wp_at_zero Go.wp_at_succ

theorem OwnP.drew {W : World} {v : Value} {l : List Pk} (h : OwnP W v l) : OwnP W.drew v l := h.block (fun _ _ => rfl)
theorem own_empty (W : World) : OwnP (W.alloc (.cells #[] 30)) (.slice (some ⟨W.heap.size, 0, none⟩) 0 0) [] :=
  ⟨rfl, .inr ⟨W.heap.size, 0, _, rfl, Nat.zero_le _, heap_alloc_new W _, Nat.le_refl _, by unfold maxLen; omega, rfl, rfl⟩⟩
theorem OwnP.rd {W : World} {v : Value} {l : List Pk} (h : OwnP W v l) : Rd W v l.length (rowCells l) := Rd.of_own h
/-- 'append(v, v2...)' at a step of a region that draws its order -/
theorem step_append_pks {w : World} {ops : Array Oper} {o : Oper} {a : Act} {K : Act → World → Prop} {Q : Exit → Act → World → Prop} {E : Prop} (hgd : o.guard = none) (s x : Operand)
    (ho : o.op = .call { callee := .builtin .append, args := #[s, x], argTypes := #[24, 24] })
    (v v2 : Value) (l news : List Pk) (hs : a.eval s = v) (hx : a.eval x = v2) (hown : OwnP w v l) (h2 : Rd w v2 news.length (rowCells news)) (hlen : l.length + news.length ≤ 100000)
    (h : ∀ v' w', OwnP w' v' (l ++ news) → w.grownBy w' v.ownBlock → (∀ g, v'.ownBlock = some g → v.ownBlock = some g ∨ w.heap.size ≤ g) → K (a.put o.dst v') w') :
    if Region.wanted o (yielded ops a.tmps) = true then Oper.wp Try.prog o a w K Q else E := by
  have hw : Region.wanted o (yielded ops a.tmps) = true := by simp [Region.wanted, hgd]
  rw [if_pos hw]
  refine wp_append_rd s x 24 ho 0 30 _ 5 48 Try.underlying24 pk_info rfl (by decide) v v2 l.length news.length (rowCells l) (rowCells news) hs hx hown h2 (rowCells_len _) (rowCells_one _) (by unfold maxLen; omega) (by omega) (Nat.zero_le _) ?_
  intro v' w' ho' hg' hat
  refine h v' w' ?_ hg' hat
  unfold OwnP
  rw [List.length_append, rowCells_app]
  exact ho'
set_option maxRecDepth 100000 in
set_option maxHeartbeats 4000000 in
theorem refAt_any (b : Nat) (v : Value) (r : Rs) (id : Int) (hl : r.l.length ≤ 1000000) (W : World) (h : RefAt W b v r) :
    Calls Try.prog 43 #[.pointer (some ⟨b, 0, none⟩), .int .i64 id] W fun e w' => ∃ j : Int, e = .returned (.int .i64 j) ∧ Hid (AtR r.l id j) ∧ W = w' := by
  obtain ⟨ao, cap, hv⟩ := h.own.len
  subst hv
  have c0 := h.c0
  have hrow := Lib.hid h.own
  clear h
  go_enter Try.func43, Try.ntmps43
  go_wp2_with fail
  go_loop [5] (fun v5 => ∃ i : Nat, v5 = .int .i64 i ∧ i ≤ r.l.length ∧ Hid (∀ k, k < i → (pat r.l k).id ≠ id)) (fun v5 => r.l.length - (intOf v5).toNat)
  case atStart => exact ⟨0, rfl, Nat.zero_le _, Lib.hid (fun k hk => by omega)⟩
  case round =>
    obtain ⟨i, rfl, hi, hno⟩ := hrel
    by_cases hlt : i < r.l.length
    · have hl1 : (i : Int) < (r.l.length : Int) := by omega
      obtain ⟨g, cap', hv, hg, d0, -⟩ := hrow.out.cells hlt
      injection hv with hv1 hv2 hv3
      subst hv1 hv3
      by_cases hq : (pat r.l i).id = id
      · have hqb : ((pat r.l i).id == id) = true := by simpa using hq
        have hend := Lib.hid (show AtR r.l id i from .inr ⟨i, rfl, hlt, hq⟩)
        clear hq
        generalize (pat r.l i).id = z at d0 hqb
        go_wp2_with fail
        go_ret
        exact ⟨_, rfl, hend, rfl⟩
      · have hqb : ((pat r.l i).id == id) = false := by simpa using hq
        have hno2 := Lib.hid (fun k (hk : k < i + 1) => (by
          by_cases e : k = i
          · rw [e]; exact hq
          · exact hno.out k (by omega) : (pat r.l k).id ≠ id))
        clear hq
        generalize (pat r.l i).id = z at d0 hqb
        go_wp2_with fail
        go_round
        case rel => exact ⟨i + 1, by go_num, by omega, hno2⟩
        case measure => simp [intOf] <;> omega
    · have hl1 : (r.l.length : Int) ≤ (i : Int) := by omega
      have hend := Lib.hid (show AtR r.l id (-1) from .inl ⟨rfl, fun q hq => by
        obtain ⟨k, hk, rfl⟩ := List.mem_iff_getElem.1 hq
        rw [← pat_lt hk]
        exact hno.out k (by omega)⟩)
      go_wp2_with fail
      go_ret
      exact ⟨_, rfl, hend, rfl⟩
end Go.Proofs.Ytjopbglimjhefaa
