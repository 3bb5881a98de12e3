/- unfolded: walked. -/
import Derived.Test.YtmlmkcpdgcojlaaDoorPaE
namespace Go.Proofs.YtmlmkcpdgcojlaaDoor
open Go.RowKit

def OwnT (w : World) (B : Nat) (v : Value) (l : List (List UInt8)) : Prop := w.ownsRow B 9 1 v l.length (l.map encStr)
theorem OwnT.nil (w : World) (B : Nat) : OwnT w B (.slice none 0 0) [] := World.ownsRow_nil _ _ _ _
theorem OwnT.rd {w : World} {B : Nat} {v : Value} {l : List (List UInt8)} (h : OwnT w B v l) : Rd w v l.length (l.map encStr) := Rd.of_own h
theorem OwnT.below {w w' : World} {B : Nat} {v : Value} {l : List (List UInt8)} (h : OwnT w B v l) (hb : Below w.heap.size w w') : OwnT w' B v l :=
  World.ownsRow.kept (row := none) h ⟨hb.os, hb.tape, hb.output, hb.size, fun k hk _ => hb.block k hk⟩ (by cases hv : v.ownBlock <;> simp)
theorem OwnT.lt {w : World} {B : Nat} {v : Value} {l : List (List UInt8)} (h : OwnT w B v l) : ∀ k, v.ownBlock = some k → B ≤ k ∧ k < w.heap.size := World.ownsRow.lt h
theorem OwnT.mono {w : World} {B B' : Nat} {v : Value} {l : List (List UInt8)} (h : OwnT w B v l) (hb : B' ≤ B) : OwnT w B' v l :=
  ⟨h.1, h.2.imp id fun ⟨g, cap, cur, h1, h2, h3⟩ => ⟨g, cap, cur, h1, Nat.le_trans hb h2, h3⟩⟩
theorem OwnT.form {w : World} {B : Nat} {v : Value} {l : List (List UInt8)} (h : OwnT w B v l) : ∃ ao cap, v = .slice ao l.length cap := by
  rcases h.2 with ⟨rfl, hn⟩ | ⟨g, cap, cur, rfl, _⟩
  · exact ⟨none, 0, by rw [hn]⟩
  · exact ⟨_, _, rfl⟩
theorem OwnT.pos {w : World} {B : Nat} {ao : Option Addr} {cap : Nat} {l : List (List UInt8)} (h : OwnT w B (.slice ao l.length cap) l) (hl : 0 < l.length) : ∃ g, ao = some ⟨g, 0, none⟩ ∧ B ≤ g ∧ g < w.heap.size ∧ l.length ≤ cap := by
  rcases h.2 with ⟨_, hn⟩ | ⟨g, cap', cur, hv, hB, hg, hle, _⟩
  · omega
  · cases hv
    exact ⟨g, rfl, hB, (Array.getElem?_eq_some_iff.1 hg).1, hle⟩
theorem str_info : (Tryd.prog.info? 9).map (fun i => (i.zero, i.size, i.bytes)) = some (some (.string ⟨#[]⟩), 1, 16) := by kernel_rfl
/-- 'append(v, u)' of a text -/
theorem wpList_append_text {w : World} {ops : Array Oper} {rest : List Oper} {o : Oper} {a : Act} {Q : Exit → Act → World → Prop} (hgd : o.guard = none) (s x : Operand)
    (ho : o.op = .call { callee := .builtin .append, args := #[s, x], argTypes := #[24, 24] }) (B : Nat) (v : Value) (l : List (List UInt8)) (g : Nat) (u : ByteArray)
    (hs : a.eval s = v) (hx : a.eval x = .slice (some ⟨g, 0, none⟩) 1 1) (hown : OwnT w B v l) (hc : w.cell? ⟨g, 0, none⟩ = some (.string u)) (hg : g < w.heap.size) (hlen : (l.length + 1) * 16 ≤ 140737488355328) (hbase : B ≤ w.heap.size)
    (h : ∀ v' w', OwnT w' B v' (l ++ [u.data.toList]) → w.grownBy w' v.ownBlock → (∀ g, v'.ownBlock = some g → v.ownBlock = some g ∨ w.heap.size ≤ g) → wpList Tryd.prog ops Q rest (a.put o.dst v') w') : wpList Tryd.prog ops Q (o :: rest) a w := by
  refine wpList_append_rd hgd s x 24 ho B 9 _ 1 16 Tryd.underlying24 str_info rfl (by decide) v _ l.length 1 (l.map encStr) [.string u] hs hx hown ⟨_, 1, rfl, .inr ⟨g, 0, rfl, hg, Nat.le_refl _, fun i y hy => ?_⟩⟩ rfl (fun y hy => ?_) (by unfold maxLen; omega) hlen hbase ?_
  · match i, hy with
    | 0, hy => simp at hy; subst hy; simpa using hc
  · have : y = .string u := by simpa using hy
    subst this; rfl
  · intro v' w' ho' hg' hv'
    refine h v' w' ?_ hg' hv'
    unfold OwnT
    rw [List.length_append, List.map_append]
    exact ho'
theorem rd_cell {w : World} {b o : Nat} {l : List (List UInt8)} (h : ∀ i u, (l.map encStr)[i]? = some u → w.cell? ⟨b, o + i, none⟩ = some u) {k : Nat} (hk : k < l.length) : w.cell? ⟨b, o + k, none⟩ = some (.string (mkB l[k])) := h k _ (by simp [hk]; rfl)
/-- the world with a text of an own row turned -/
theorem OwnT.set {w : World} {B g cap : Nat} {l : List (List UInt8)} (h : OwnT w B (.slice (some ⟨g, 0, none⟩) l.length cap) l) (j : Nat) (u : ByteArray) :
    OwnT (w.setCell ⟨g, j, none⟩ (.string u)) B (.slice (some ⟨g, 0, none⟩) l.length cap) (l.set j u.data.toList) := by
  have := (World.ownsRow.stored h j (.string u)).1
  unfold OwnT
  rw [List.length_set, List.map_set]
  exact this
/-- what 'unfolded' hands back: a row of its own that holds the lines -/
def UnfRet (h : List UInt8) (w : World) (e : Ending) (w' : World) : Prop := ∃ v, e = .returned v ∧ Hid (OwnT w' w.heap.size v (unfL (linesL h))) ∧ Hid (Below w.heap.size w w')
set_option maxRecDepth 100000 in
set_option maxHeartbeats 1000000 in
theorem unfolded_any (s : ByteArray) (hs : s.size ≤ 4194304) (m : Int) (w : World) (hm : w.cell? ⟨0, 0, none⟩ = some (.int .i64 m)) :
    Calls Tryd.prog 37 #[.string s] w (UnfRet s.data.toList w) := by
  have hspl := Lib.hid (split_lines s hs m w hm)
  have hfl := flat_len _ s.data.toList (Nat.le_refl _)
  have hsl : s.data.toList.length = s.size := rfl
  rw [hsl] at hfl
  unfold UnfRet
  generalize linesL s.data.toList = L at hspl hfl ⊢
  obtain ⟨hfl1, hfl2⟩ := hfl
  clear hm hsl
  go_enter Tryd.func37, Tryd.ntmps37
  go_wp2_with fail
  refine hspl.out.mono ?_
  rintro e w1 ⟨v1, rfl, hr1, hb1⟩
  clear hspl
  have hr0 : Hid (RdB w1.heap.size w1 v1 L.length (L.map encStr)) := Lib.hid hr1.out.at_
  obtain ⟨ao, cap, rfl⟩ := hr0.out.len
  clear hr1
  go_wp2_with fail
  go_loopw [3, 10] (fun vo vk wr => ∃ (k : Nat) (ao2 : Option Addr) (cap2 : Nat), vk = .int .i64 k ∧ k ≤ L.length ∧ vo = .slice ao2 (unfL (L.take k)).length cap2 ∧ Hid (OwnT wr w1.heap.size (.slice ao2 (unfL (L.take k)).length cap2) (unfL (L.take k))) ∧ Hid (Below w1.heap.size w1 wr)) (fun _ vk _ => L.length - (intOf vk).toNat)
  case atStart => exact ⟨0, none, 0, rfl, Nat.zero_le _, rfl, Lib.hid (OwnT.nil _ _), Lib.hid (Below.refl _ _)⟩
  case round =>
    obtain ⟨k, ao2, cap2, rfl, hk, rfl, hown, hb⟩ := hrel
    have hsz := hb.out.size
    by_cases hlt : k < L.length
    · have hsucc := unfL_succ hlt
      have hol : (unfL (L.take k)).length ≤ k := by have := (unfL_flat (L.take k)).2; rw [List.length_take] at this; omega
      have hfl : (unfL (L.take k)).flatten.length ≤ s.size := by have := (unfL_flat (L.take k)).1; rw [this]; have := take_flat_len L k; omega
      have hXl : L[k].length ≤ s.size := by have := mem_flat_len (List.getElem_mem hlt); omega
      obtain ⟨b, o, hao, hbl, hcell⟩ := hr0.out.at_pos (by omega)
      subst hao
      have hcw : wr.cell? ⟨b, o + k, none⟩ = some (.string (mkB L[k])) := (hb.out.cell (p := ⟨b, o + k, none⟩) hbl).trans (rd_cell hcell hlt)
      clear hcell
      have hXs : (mkB L[k]).size ≤ s.size := hXl
      have hlk : Hid ((mkB L[k]).data.toList = L[k]) := Lib.hid rfl
      replace hsucc := Lib.hid hsucc
      generalize mkB L[k] = X at hcw hXs hlk
      generalize hOut : unfL (L.take k) = out at hown hol hfl hsucc ⊢
      clear hOut
      by_cases hA : out.length = 0
      · have hn : Hid (unfL (L.take (k + 1)) = out ++ [X.data.toList]) := Lib.hid (by rw [hsucc.out, unfStep_no (fun h => h.1 (List.eq_nil_of_length_eq_zero hA)), hlk.out])
        clear hsucc hlk hfl
        go_wp2_with (at_builtin; refine wpList_append_text rfl (.tmp 40) (.tmp 42) rfl w1.heap.size _ out wr.heap.size X rfl rfl (hown.out.below ((Below.refl _ _).alloc (Nat.le_refl _) _)) (by simp) (by simp) (by omega) (by simp; omega) ?_)
        intro v4 w4 ho4 hg4 hv4
        have hb4 := Lib.hid ((hb.out.alloc hb.out.size _).grown hg4 (by simp; omega) (fun k hk => (hown.out.lt k (by rw [hA]; exact hk)).1))
        rw [← hn.out] at ho4
        obtain ⟨ao5, cap5, rfl⟩ := ho4.form
        replace ho4 := Lib.hid ho4
        clear hg4 hv4
        go_wp2_with fail
        go_roundw
        case rel => exact ⟨k + 1, ao5, cap5, by go_num, by omega, rfl, ho4, hb4⟩
        case measure => simp [intOf]; omega
      by_cases hX : X.size = 0
      · have he : X.toList.isEmpty = true := by rw [ByteArray.toList_eq, List.isEmpty_iff]; exact List.eq_nil_of_length_eq_zero hX
        have hn : Hid (unfL (L.take (k + 1)) = out ++ [X.data.toList]) := Lib.hid (by
          rw [hsucc.out, unfStep_no, hlk.out]
          rintro ⟨_, h⟩
          rw [← hlk.out, List.eq_nil_of_length_eq_zero (show X.data.toList.length = 0 from hX)] at h
          cases h)
        clear hsucc hlk hfl
        go_wp2_with (at_builtin; refine wpList_append_text rfl (.tmp 40) (.tmp 42) rfl w1.heap.size _ out wr.heap.size X rfl rfl (hown.out.below ((Below.refl _ _).alloc (Nat.le_refl _) _)) (by simp) (by simp) (by omega) (by simp; omega) ?_)
        intro v4 w4 ho4 hg4 hv4
        have hb4 := Lib.hid ((hb.out.alloc hb.out.size _).grown hg4 (by simp; omega) (fun k hk => (hown.out.lt k hk).1))
        rw [← hn.out] at ho4
        obtain ⟨ao5, cap5, rfl⟩ := ho4.form
        replace ho4 := Lib.hid ho4
        clear hg4 hv4
        go_wp2_with fail
        go_roundw
        case rel => exact ⟨k + 1, ao5, cap5, by go_num, by omega, rfl, ho4, hb4⟩
        case measure => simp [intOf]; omega
      have hX0 : 0 < X.size := by omega
      have he : X.toList.isEmpty = false := by
        rw [ByteArray.toList_eq, Bool.eq_false_iff]
        intro h
        rw [List.isEmpty_iff] at h
        have : X.data.toList.length = 0 := by rw [h]; rfl
        exact hX this
      have hgoX : goesOn X.data.toList = isBl X[0] := by
        have := drop_cons X 0 hX0
        rw [List.drop_zero] at this
        rw [this]; rfl
      by_cases hgo : goesOn X.data.toList = true
      · have hc : ((X[0].toNat : Int) == 32) = true ∨ (((X[0].toNat : Int) == 32) = false ∧ ((X[0].toNat : Int) == 9) = true) := by
          rw [hgoX, isBl] at hgo
          by_cases h32 : X[0] = 32
          · left; rw [h32]; rfl
          · have h9 : X[0] = 9 := by simpa [h32] using hgo
            right; rw [h9]; exact ⟨rfl, rfl⟩
        clear hgoX
        obtain ⟨j, hj⟩ : ∃ j, out.length = j + 1 := ⟨out.length - 1, by omega⟩
        obtain ⟨g, rfl, hgB, hgl, hcap⟩ := hown.out.pos (by omega)
        have hj' : j < out.length := by omega
        have hYc : wr.cell? ⟨g, j, none⟩ = some (.string (mkB out[j])) := by
          rw [World.ownsRow.cellAt hown.out j (by omega)]
          rw [List.getElem?_map, List.getElem?_eq_getElem hj']; rfl
        have hYf := World.ownsRow.frozenAt hown.out j
        have hYs : (mkB out[j]).size ≤ s.size := by have := mem_flat_len (List.getElem_mem hj'); show out[j].length ≤ _; omega
        have hn : Hid (OwnT (wr.setCell ⟨g, j, none⟩ (.string (mkB out[j] ++ X))) w1.heap.size (.slice (some ⟨g, 0, none⟩) (unfL (L.take (k + 1))).length cap2) (unfL (L.take (k + 1)))) := Lib.hid (by
          have h5 := hown.out.set j (mkB out[j] ++ X)
          have e : out.set j (mkB out[j] ++ X).data.toList = unfL (L.take (k + 1)) := by
            rw [hsucc.out, unfStep_yes (by intro e; rw [e] at hA; exact hA rfl) (by rw [← hlk.out]; exact hgo), hj, toList_app, hlk.out]
            simp [List.getD, hj', mkB]
          rw [e] at h5
          have e2 : out.length = (unfL (L.take (k + 1))).length := by rw [← e, List.length_set]
          rw [e2] at h5
          exact h5)
        have hb4 : Hid (Below w1.heap.size w1 (wr.setCell ⟨g, j, none⟩ (.string (mkB out[j] ++ X)))) := Lib.hid (hb.out.setCell (p := ⟨g, j, none⟩) hgB _)
        have hlen2 : (unfL (L.take (k + 1))).length = j + 1 := by
          rw [hsucc.out, unfStep_yes (by intro e; rw [e] at hA; exact hA rfl) (by rw [← hlk.out]; exact hgo), List.length_set, hj]
        rw [hlen2] at hn
        replace hlen2 := Lib.hid hlen2
        rw [hj] at hcap hol ⊢
        rw [hj] at hown
        generalize mkB out[j] = Y at hYc hYs hn hb4
        clear hsucc hlk hfl hgo hj' hown hA
        rcases hc with hc | ⟨hc, hc2⟩
        · go_wp2_with fail
          go_roundw
          case rel => exact ⟨k + 1, _, cap2, by go_num, by omega, by rw [hlen2.out], by rw [hlen2.out]; exact hn, hb4⟩
          case measure => simp [intOf]; omega
        · go_wp2_with fail
          go_roundw
          case rel => exact ⟨k + 1, _, cap2, by go_num, by omega, by rw [hlen2.out], by rw [hlen2.out]; exact hn, hb4⟩
          case measure => simp [intOf]; omega
      · have hc : ((X[0].toNat : Int) == 32) = false ∧ ((X[0].toNat : Int) == 9) = false := by
          rw [hgoX, isBl, Bool.or_eq_true, beq_iff_eq, beq_iff_eq] at hgo
          refine ⟨beq_eq_false_iff_ne.2 fun e => hgo (.inl (byte_ext e)), beq_eq_false_iff_ne.2 fun e => hgo (.inr (byte_ext e))⟩
        obtain ⟨hc, hc2⟩ := hc
        have hn : Hid (unfL (L.take (k + 1)) = out ++ [X.data.toList]) := Lib.hid (by
          rw [hsucc.out, unfStep_no, hlk.out]
          rintro ⟨_, h⟩
          rw [← hlk.out] at h
          exact hgo h)
        clear hsucc hlk hfl hgo hgoX
        go_wp2_with (at_builtin; refine wpList_append_text rfl (.tmp 40) (.tmp 42) rfl w1.heap.size _ out wr.heap.size X rfl rfl (hown.out.below ((Below.refl _ _).alloc (Nat.le_refl _) _)) (by simp) (by simp) (by omega) (by simp; omega) ?_)
        intro v4 w4 ho4 hg4 hv4
        have hb4 := Lib.hid ((hb.out.alloc hb.out.size _).grown hg4 (by simp; omega) (fun k hk => (hown.out.lt k hk).1))
        rw [← hn.out] at ho4
        obtain ⟨ao5, cap5, rfl⟩ := ho4.form
        replace ho4 := Lib.hid ho4
        clear hg4 hv4
        go_wp2_with fail
        go_roundw
        case rel => exact ⟨k + 1, ao5, cap5, by go_num, by omega, rfl, ho4, hb4⟩
        case measure => simp [intOf]; omega
    · obtain rfl : k = L.length := by omega
      rw [List.take_length] at hown ⊢
      go_wp2_with fail
      go_ret
      exact ⟨_, rfl, Lib.hid (hown.out.mono hb1.out.size), Lib.hid (hb1.out.trans (hb.out.mono hb1.out.size))⟩
end Go.Proofs.YtmlmkcpdgcojlaaDoor
