/- slices.Grow and slices.Concat of two lists of texts; 'with'. -/
import Derived.Test.YtfglfoapgpghkaaFlK
namespace Go.Proofs.Ytfglfoapgpghkaa
open Go.RowKit

set_option maxRecDepth 100000 in
set_option maxHeartbeats 2000000 in
theorem grow_any (n : Nat) (hn : n ≤ 1000) (w : World) :
    Calls Try.prog 60 #[.slice none 0 0, .int .i64 n] w fun e w' => ∃ v, e = .returned v ∧ Hid (OwnT w' w.heap.size v []) ∧ Hid (Below w.heap.size w w') := by
  rcases Nat.eq_zero_or_pos n with h0 | h0
  · subst h0
    go_enter Try.func60, Try.ntmps60
    go_wp2_with fail
    go_ret
    exact ⟨_, rfl, Lib.hid (OwnT.nil _ _), Lib.hid (Below.refl _ _)⟩
  · obtain ⟨i, hi, hz, hsz, hby⟩ : ∃ i, Try.prog.info? 9 = some i ∧ i.zero = some (.string ⟨#[]⟩) ∧ i.size = 1 ∧ i.bytes = 16 := by
      have h := str_info
      simp only [Option.map_eq_some_iff] at h
      obtain ⟨i, hi, he⟩ := h
      exact ⟨i, hi, congrArg (·.1) he, congrArg (·.2.1) he, congrArg (·.2.2) he⟩
    have hrun := fun (ty : TypeId) => Lib.run_append_nil_zeros (P := Try.prog) w 50 3 ty 9 i _ .i64 .i64 Try.underlying50 Try.underlying3 hi hz n h0 (by omega) (by omega) (by rw [hby]; omega)
    have hge := grownCap_ge w n 0 9
    have hle := grownCap_le_maxLen w n 0 9 (by unfold maxLen; omega)
    have hown := World.ownsRow_made (base := w.heap.size) (e := 9) (size := 1) w.drew (Builtin.zeroCells (Value.string ⟨#[]⟩).cells n ++ Builtin.zeroCells (Value.string ⟨#[]⟩).cells (grownCap w n 0 9 - n)) (grownCap w n 0 9) (Nat.le_refl _) hle (by
      have hzc : ∀ k, (Builtin.zeroCells (Value.string ⟨#[]⟩).cells k).size = k := fun k => by simp [Builtin.zeroCells, Value.cells]
      rw [Array.size_append, hzc, hzc]; omega)
    have hb : Below w.heap.size w (w.drew.alloc (.cells (Builtin.zeroCells (Value.string ⟨#[]⟩).cells n ++ Builtin.zeroCells (Value.string ⟨#[]⟩).cells (grownCap w n 0 9 - n)) 9)) := Below.alloc (show Below w.heap.size w w.drew from ⟨rfl, rfl, rfl, Nat.le_refl _, fun _ _ => rfl⟩) (Nat.le_refl _) _
    obtain ⟨W, hW⟩ : ∃ W, W = w.drew.alloc (.cells (Builtin.zeroCells (Value.string ⟨#[]⟩).cells n ++ Builtin.zeroCells (Value.string ⟨#[]⟩).cells (grownCap w n 0 9 - n)) 9) := ⟨_, rfl⟩
    rw [← hW] at hown hb
    simp only [← hW] at hrun
    obtain ⟨G, hG⟩ : ∃ G, G = grownCap w n 0 9 := ⟨_, rfl⟩
    rw [← hG] at hge hle hown
    simp only [← hG] at hrun
    unfold maxLen at hle
    clear hG hW
    replace hown := Lib.hid hown
    go_enter Try.func60, Try.ntmps60
    go_wp2_with (at_builtin; refine Lib.wpList_append_run _ rfl _ _ _ _ rfl _ _ rfl rfl _ _ (hrun _) ?_)
    go_ret
    exact ⟨_, rfl, Lib.hid hown.out, Lib.hid hb⟩
/-- 'append(v, u...)' of texts, at the type of flags -/
theorem wpList_append_texts {w : World} {ops : Array Oper} {rest : List Oper} {o : Oper} {a : Act} {Q : Exit → Act → World → Prop} (hgd : o.guard = none) (s x : Operand)
    (ho : o.op = .call { callee := .builtin .append, args := #[s, x], argTypes := #[50, 50] }) (B : Nat) (v v2 : Value) (l m : List (List UInt8))
    (hs : a.eval s = v) (hx : a.eval x = v2) (hown : OwnT w B v l) (h2 : Rd w v2 m.length (m.map encStr)) (hlen : (l.length + m.length) * 16 ≤ 140737488355328) (hbase : B ≤ w.heap.size)
    (h : ∀ v' w', OwnT w' B v' (l ++ m) → w.grownBy w' v.ownBlock → (∀ g, v'.ownBlock = some g → v.ownBlock = some g ∨ w.heap.size ≤ g) → wpList Try.prog ops Q rest (a.put o.dst v') w') : wpList Try.prog ops Q (o :: rest) a w := by
  refine wpList_append_rd hgd s x 50 ho B 9 _ 1 16 Try.underlying50 str_info rfl (by decide) v v2 l.length m.length (l.map encStr) (m.map encStr) hs hx hown h2 (by simp) (fun y hy => ?_) (by unfold maxLen; omega) hlen hbase ?_
  · obtain ⟨z, _, rfl⟩ := List.mem_map.1 hy; rfl
  · intro v' w' ho' hg' hv'
    refine h v' w' ?_ hg' hv'
    unfold OwnT
    rw [List.length_append, List.map_append]
    exact ho'
def RetOwn (l : List (List UInt8)) (w : World) (e : Ending) (w' : World) : Prop := ∃ v', e = .returned v' ∧ Hid (OwnT w' w.heap.size v' l) ∧ Hid (Below w.heap.size w w')
set_option maxRecDepth 100000 in
set_option maxHeartbeats 2000000 in
theorem concat_any (b : Nat) (v u : Value) (l m : List (List UInt8)) (w : World) (hb : b < w.heap.size) (c0 : w.cell? ⟨b, 0, none⟩ = some v) (c1 : w.cell? ⟨b, 1, none⟩ = some u) (hr : Rd w v l.length (l.map encStr)) (hu : Rd w u m.length (m.map encStr)) (hl : l.length ≤ 100) (hm : m.length ≤ 100) :
    Calls Try.prog 48 #[.slice (some ⟨b, 0, none⟩) 2 2] w (RetOwn (l ++ m) w) := by
  have hr0 := Lib.hid hr
  have hu0 := Lib.hid hu
  obtain ⟨ao, cap, rfl, -⟩ := hr
  obtain ⟨ao2, cap2, rfl, -⟩ := hu
  have hc0 : ∀ W, Below w.heap.size w W → W.cell? ⟨b, 0, none⟩ = some (.slice ao l.length cap) := fun W hW => (hW.cell (p := ⟨b, 0, none⟩) hb).trans c0
  have hc1 : ∀ W, Below w.heap.size w W → W.cell? ⟨b, 1, none⟩ = some (.slice ao2 m.length cap2) := fun W hW => (hW.cell (p := ⟨b, 1, none⟩) hb).trans c1
  replace hc0 := Lib.hid hc0
  replace hc1 := Lib.hid hc1
  go_enter Try.func48, Try.ntmps48
  go_wp2_with fail
  go_loop [3, 11] (fun vs vk => (vk = .int .i64 0 ∧ vs = .int .i64 0) ∨ (vk = .int .i64 1 ∧ vs = .int .i64 l.length) ∨ (vk = .int .i64 2 ∧ vs = .int .i64 ((l.length + m.length : Nat) : Int))) (fun _ vk => 2 - (intOf vk).toNat)
  case atStart => exact .inl ⟨rfl, rfl⟩
  case round =>
    rcases hrel with ⟨rfl, rfl⟩ | ⟨rfl, rfl⟩ | ⟨rfl, rfl⟩
    · go_wp2_with fail
      go_round
      case rel => exact .inr (.inl ⟨rfl, by go_num⟩)
      case measure => decide
    · go_wp2_with fail
      go_round
      case rel => exact .inr (.inr ⟨rfl, by go_num⟩)
      case measure => decide
    · go_wp2_with fail
      refine (grow_any (l.length + m.length) (by omega) w).mono ?_
      rintro e w1 ⟨v1, rfl, o1, b1⟩
      go_wp2_with fail
      go_loopw [6, 27] (fun vo vk wr => ((vk = .int .i64 0 ∧ Hid (OwnT wr w.heap.size vo [])) ∨ (vk = .int .i64 1 ∧ Hid (OwnT wr w.heap.size vo l)) ∨ (vk = .int .i64 2 ∧ Hid (OwnT wr w.heap.size vo (l ++ m)))) ∧ Hid (Below w.heap.size w wr)) (fun _ vk _ => 2 - (intOf vk).toNat)
      case atStart => exact ⟨.inl ⟨rfl, o1⟩, b1⟩
      case round =>
        obtain ⟨hrel, hb2⟩ := hrel
        have d0 := hc0.out wr hb2.out
        have d1 := hc1.out wr hb2.out
        have hr2 := Lib.hid (hr0.out.below hb2.out)
        have hu2 := Lib.hid (hu0.out.below hb2.out)
        have hsz2 := hb2.out.size
        rcases hrel with ⟨rfl, ho⟩ | ⟨rfl, ho⟩ | ⟨rfl, ho⟩
        · go_wp2_with (at_builtin; refine wpList_append_texts rfl (.tmp 31) (.tmp 32) rfl w.heap.size u6 _ [] l rfl rfl ho.out hr2.out (by simp; omega) hsz2 ?_)
          intro v4 w4 ho4 hg4 hv4
          have hb4 := Lib.hid (hb2.out.grown hg4 (by omega) (fun k hk => (ho.out.lt k hk).1))
          replace ho4 := Lib.hid ho4
          clear hg4 hv4
          go_wp2_with fail
          go_roundw
          case rel => exact ⟨.inr (.inl ⟨rfl, by simpa using ho4⟩), hb4⟩
          case measure => decide
        · go_wp2_with (at_builtin; refine wpList_append_texts rfl (.tmp 31) (.tmp 32) rfl w.heap.size u6 _ l m rfl rfl ho.out hu2.out (by omega) hsz2 ?_)
          intro v4 w4 ho4 hg4 hv4
          have hb4 := Lib.hid (hb2.out.grown hg4 (by omega) (fun k hk => (ho.out.lt k hk).1))
          replace ho4 := Lib.hid ho4
          clear hg4 hv4
          go_wp2_with fail
          go_roundw
          case rel => exact ⟨.inr (.inr ⟨rfl, ho4⟩), hb4⟩
          case measure => decide
        · go_wp2_with fail
          go_ret
          exact ⟨_, rfl, ho, hb2⟩
theorem with_any (v u : Value) (l m : List (List UInt8)) (w : World) (hr : Rd w v l.length (l.map encStr)) (hu : Rd w u m.length (m.map encStr)) (hl : l.length ≤ 100) (hm : m.length ≤ 100) :
    Calls Try.prog 35 #[v, u] w (RetRdB (fset (l ++ m)) w) := by
  have hr0 := Lib.hid hr
  have hu0 := Lib.hid hu
  obtain ⟨ao, cap, rfl, -⟩ := hr
  obtain ⟨ao2, cap2, rfl, -⟩ := hu
  go_enter Try.func35, Try.ntmps35
  go_wp2_with fail
  have b0 : Below w.heap.size w (w.alloc (.cells #[.slice ao l.length cap, .slice ao2 m.length cap2] 50)) := (Lays.alloc _ _).below
  refine (concat_any w.heap.size (.slice ao l.length cap) (.slice ao2 m.length cap2) l m _ (by simp) (by simp) (by simp) (hr0.out.below b0) (hu0.out.below b0) hl hm).mono ?_
  rintro e w1 ⟨v1, rfl, o1, b1⟩
  have b1' := Lib.hid (b0.trans (b1.out.mono b0.size))
  clear b0 b1
  go_wp2_with fail
  refine (set_any _ (l ++ m) w1 o1.out.rd (by simp; omega)).mono ?_
  rintro e w2 ⟨v2, rfl, h2, b2⟩
  have b2' := Lib.hid (b1'.out.trans (b2.out.mono b1'.out.size))
  have hrd := Lib.hid h2.out.rd
  clear b2 h2
  go_wp2_with fail
  go_ret
  exact ⟨_, rfl, hrd, b2'⟩
end Go.Proofs.Ytfglfoapgpghkaa
