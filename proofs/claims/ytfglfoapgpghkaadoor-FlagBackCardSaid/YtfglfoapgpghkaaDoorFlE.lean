/- Lists of flags that the call makes: With, Make of both, Same. -/
import Derived.Test.YtfglfoapgpghkaaDoorFlD
namespace Go.Proofs.YtfglfoapgpghkaaDoor
open Go.RowKit

def OwnT (w : World) (B : Nat) (v : Value) (l : List (List UInt8)) : Prop := w.ownsRow B 9 1 v l.length (l.map encStr)
theorem OwnT.nil (w : World) (B : Nat) : OwnT w B (.slice none 0 0) [] := World.ownsRow_nil _ _ _ _
theorem OwnT.rd {w : World} {B : Nat} {v : Value} {l : List (List UInt8)} (h : OwnT w B v l) : Rd w v l.length (l.map encStr) := Rd.of_own h
theorem OwnT.below {w w' : World} {B : Nat} {v : Value} {l : List (List UInt8)} (h : OwnT w B v l) (hb : Below w.heap.size w w') : OwnT w' B v l :=
  World.ownsRow.kept (row := none) h ⟨hb.os, hb.tape, hb.output, hb.size, fun k hk _ => hb.block k hk⟩ (by cases hv : v.ownBlock <;> simp)
theorem OwnT.lt {w : World} {B : Nat} {v : Value} {l : List (List UInt8)} (h : OwnT w B v l) : ∀ k, v.ownBlock = some k → B ≤ k ∧ k < w.heap.size := World.ownsRow.lt h
theorem str_info : (Tryd.prog.info? 9).map (fun i => (i.zero, i.size, i.bytes)) = some (some (.string ⟨#[]⟩), 1, 16) := by kernel_rfl
/-- 'append(v, u)' of a text -/
theorem wpList_append_text {w : World} {ops : Array Oper} {rest : List Oper} {o : Oper} {a : Act} {Q : Exit → Act → World → Prop} (hgd : o.guard = none) (s x : Operand)
    (ho : o.op = .call { callee := .builtin .append, args := #[s, x], argTypes := #[22, 22] }) (B : Nat) (v : Value) (l : List (List UInt8)) (g : Nat) (u : ByteArray)
    (hs : a.eval s = v) (hx : a.eval x = .slice (some ⟨g, 0, none⟩) 1 1) (hown : OwnT w B v l) (hc : w.cell? ⟨g, 0, none⟩ = some (.string u)) (hg : g < w.heap.size) (hlen : (l.length + 1) * 16 ≤ 140737488355328) (hbase : B ≤ w.heap.size)
    (h : ∀ v' w', OwnT w' B v' (l ++ [u.data.toList]) → w.grownBy w' v.ownBlock → (∀ g, v'.ownBlock = some g → v.ownBlock = some g ∨ w.heap.size ≤ g) → wpList Tryd.prog ops Q rest (a.put o.dst v') w') : wpList Tryd.prog ops Q (o :: rest) a w := by
  refine wpList_append_rd hgd s x 22 ho B 9 _ 1 16 Tryd.underlying22 str_info rfl (by decide) v _ l.length 1 (l.map encStr) [.string u] hs hx hown ⟨_, 1, rfl, .inr ⟨g, 0, rfl, hg, Nat.le_refl _, fun i y hy => ?_⟩⟩ rfl (fun y hy => ?_) (by unfold maxLen; omega) hlen hbase ?_
  · match i, hy with
    | 0, hy => simp at hy; subst hy; simpa using hc
  · have : y = .string u := by simpa using hy
    subst this; rfl
  · intro v' w' ho' hg' hv'
    refine h v' w' ?_ hg' hv'
    unfold OwnT
    rw [List.length_append, List.map_append]
    exact ho'
/-- between the rounds of With: what is written, is f there already? -/
def WithInv (f : List UInt8) (l : List (List UInt8)) (k : Nat) (done : Bool) (out : List (List UInt8)) : Prop :=
  if done then insS flt f l = out ++ l.drop k else out = l.take k ∧ insS flt f l = out ++ insS flt f (l.drop k)
theorem WithInv.start (f : List UInt8) (l : List (List UInt8)) : WithInv f l 0 false [] := ⟨rfl, rfl⟩
theorem WithInv.len {f : List UInt8} {l : List (List UInt8)} {k : Nat} {d : Bool} {out : List (List UInt8)} (h : WithInv f l k d out) : out.length ≤ l.length + 1 := by
  have hl := insS_len flt f l
  cases d
  · rw [h.1, List.length_take]; omega
  · have h' : insS flt f l = out ++ l.drop k := h
    rw [h', List.length_append] at hl; omega
theorem drop_get {l : List (List UInt8)} {k : Nat} (h : k < l.length) : l.drop k = l[k] :: l.drop (k + 1) := List.drop_eq_getElem_cons h
theorem WithInv.on {f : List UInt8} {l : List (List UInt8)} {k : Nat} {out : List (List UInt8)} (h : WithInv f l k true out) (hk : k < l.length) : WithInv f l (k + 1) true (out ++ [l[k]]) := by
  have h' : insS flt f l = out ++ l.drop k := h
  show insS flt f l = _
  rw [h', drop_get hk]; simp
theorem WithInv.skip {f : List UInt8} {l : List (List UInt8)} {k : Nat} {out : List (List UInt8)} (h : WithInv f l k false out) (hk : k < l.length) (hn : flt f l[k] = false) : WithInv f l (k + 1) false (out ++ [l[k]]) := by
  have h2 := h.2
  rw [drop_get hk, insS, if_neg (by rw [hn]; simp)] at h2
  exact ⟨by rw [h.1, List.take_succ_eq_append_getElem hk], by rw [h2]; simp⟩
theorem WithInv.put {f : List UInt8} {l : List (List UInt8)} {k : Nat} {out : List (List UInt8)} (h : WithInv f l k false out) (hk : k < l.length) (hn : flt f l[k] = true) : WithInv f l (k + 1) true (out ++ [f] ++ [l[k]]) := by
  have h2 := h.2
  rw [drop_get hk, insS, if_pos hn] at h2
  show insS flt f l = _
  rw [h2]; simp
theorem WithInv.end_ {f : List UInt8} {l : List (List UInt8)} {d : Bool} {out : List (List UInt8)} (h : WithInv f l l.length d out) : insS flt f l = if d then out else out ++ [f] := by
  cases d
  · have := h.2
    rw [List.drop_length] at this
    exact this
  · have h' : insS flt f l = out ++ l.drop l.length := h
    rw [List.drop_length, List.append_nil] at h'
    exact h'
def RetRd (l : List (List UInt8)) (w : World) (e : Ending) (w' : World) : Prop := ∃ v', e = .returned v' ∧ Hid (Rd w' v' l.length (l.map encStr)) ∧ Hid (Below w.heap.size w w')
theorem rd_cell {w : World} {b o k : Nat} {l : List (List UInt8)} (hc : ∀ i u, (l.map encStr)[i]? = some u → w.cell? ⟨b, o + i, none⟩ = some u) (hk : k < l.length) : w.cell? ⟨b, o + k, none⟩ = some (.string (mkB l[k])) := hc k _ (by rw [List.getElem?_map, List.getElem?_eq_getElem hk]; rfl)
set_option maxRecDepth 100000 in
set_option maxHeartbeats 2000000 in
theorem refWith_any (v : Value) (l : List (List UInt8)) (f : ByteArray) (w : World) (hr : Rd w v l.length (l.map encStr)) (hl : (l.length + 2) * 16 ≤ 140737488355328) :
    Calls Tryd.prog 23 #[v, .string f] w (RetRd (withS flt l f.data.toList) w) := by
  have hr0 := Lib.hid hr
  obtain ⟨ao, cap, rfl, -⟩ := hr
  go_enter Tryd.func23, Tryd.ntmps23
  go_wp2_with fail
  refine (refHas_any _ l f w hr0.out (by omega)).mono ?_
  rintro e w' ⟨rfl, rfl⟩
  by_cases hm : f.data.toList ∈ l
  · have hd : decide (f.data.toList ∈ l) = true := decide_eq_true hm
    have hw : Hid (withS flt l f.data.toList = l) := Lib.hid (by rw [withS, if_pos hm])
    rw [hd]
    clear hd hm
    go_wp2_with fail
    go_ret
    exact ⟨_, rfl, by rw [hw.out]; exact hr0, Lib.hid (Below.refl _ _)⟩
  · have hd : decide (f.data.toList ∈ l) = false := decide_eq_false hm
    have hw : Hid (withS flt l f.data.toList = insS flt f.data.toList l) := Lib.hid (by rw [withS, if_neg hm])
    rw [hd]
    clear hd hm
    go_wp2_with fail
    go_loopw [5, 6, 7] (fun vo vd vk wr => ∃ (k : Nat) (d : Bool) (out : List (List UInt8)), vk = .int .i64 k ∧ vd = .bool d ∧ k ≤ l.length ∧ Hid (WithInv f.data.toList l k d out) ∧ Hid (OwnT wr w.heap.size vo out) ∧ Hid (Below w.heap.size w wr)) (fun _ _ vk _ => l.length - (intOf vk).toNat)
    case atStart => exact ⟨0, false, [], rfl, rfl, Nat.zero_le _, Lib.hid (.start _ _), Lib.hid (OwnT.nil _ _), Lib.hid (Below.refl _ _)⟩
    case round =>
      obtain ⟨k, d, out, rfl, rfl, hk, hinv, hown, hb⟩ := hrel
      have hol := hinv.out.len
      have hsz := hb.out.size
      by_cases hlt : k < l.length
      · obtain ⟨b, o, hao, hbl, hcell⟩ := hr0.out.at_pos (by omega)
        subst hao
        have hc : ∀ wz, Below w.heap.size w wz → wz.cell? ⟨b, o + k, none⟩ = some (.string (mkB l[k])) := fun wz hz => (hz.cell (p := ⟨b, o + k, none⟩) hbl).trans (rd_cell hcell hlt)
        have hcw := hc wr hb.out
        replace hc := Lib.hid hc
        clear hcell
        cases d
        · have hok : out.length ≤ k := by rw [hinv.out.1, List.length_take]; omega
          have hlk : Hid ((mkB l[k]).data.toList = l[k]) := Lib.hid rfl
          have hk1 : Hid (flt f.data.toList l[k] = false → WithInv f.data.toList l (k + 1) false (out ++ [(mkB l[k]).data.toList])) := Lib.hid (fun h => hinv.out.skip hlt h)
          have hk2 : Hid (flt f.data.toList l[k] = true → WithInv f.data.toList l (k + 1) true (out ++ [f.data.toList, (mkB l[k]).data.toList])) := Lib.hid (fun h => by have := hinv.out.put hlt h; rwa [List.append_assoc] at this)
          have hless := Lib.hid (refLess_any f (mkB l[k]) wr)
          rw [mkB_list] at hless
          generalize mkB l[k] = X at hcw hc hk1 hk2 hless hlk
          go_wp2_with fail
          refine hless.out.mono ?_
          rintro e w' ⟨rfl, rfl⟩
          cases hf : flt f.data.toList l[k]
          · have hn := Lib.hid (hk1.out hf)
            clear hk1 hk2 hless
            replace hf := Lib.hid hf
            go_wp2_with (at_builtin; refine wpList_append_text rfl (.tmp 32) (.tmp 37) rfl w.heap.size u5 out wr.heap.size X rfl rfl (hown.out.below (Lays.alloc _ _).below) (by simp) (by simp) (by omega) (by simp; omega) ?_)
            intro v4 w4 ho4 hg4 hv4
            have hb4 := Lib.hid ((hb.out.alloc hb.out.size _).grown hg4 (by simp; omega) (fun k hk => (hown.out.lt k hk).1))
            replace ho4 := Lib.hid ho4
            clear hg4 hv4
            go_wp2_with fail
            go_roundw
            case rel => exact ⟨k + 1, false, _, by go_num, rfl, by omega, hn, ho4, hb4⟩
            case measure => simp [intOf]; omega
          · have hn := Lib.hid (hk2.out hf)
            clear hk1 hk2 hless
            replace hf := Lib.hid hf
            go_wp2_with (at_builtin; refine wpList_append_text rfl (.tmp 28) (.tmp 30) rfl w.heap.size u5 out wr.heap.size f rfl rfl (hown.out.below (Lays.alloc _ _).below) (by simp) (by simp) (by omega) (by simp; omega) ?_)
            intro v4 w4 ho4 hg4 hv4
            have hb4 := Lib.hid ((hb.out.alloc hb.out.size _).grown hg4 (by simp; omega) (fun k hk => (hown.out.lt k hk).1))
            have hcw4 := hc.out w4 hb4.out
            have hsz4 := hb4.out.size
            have hl4 : (out ++ [f.data.toList]).length = out.length + 1 := by simp
            replace ho4 := Lib.hid ho4
            clear hg4 hv4
            go_wp2_with (at_builtin; refine wpList_append_text rfl (.tmp 32) (.tmp 37) rfl w.heap.size v4 (out ++ [f.data.toList]) w4.heap.size X rfl rfl (ho4.out.below (Lays.alloc _ _).below) (by simp) (by simp) (by omega) (by simp; omega) ?_)
            intro v5 w5 ho5 hg5 hv5
            have hb5 := Lib.hid ((hb4.out.alloc hb4.out.size _).grown hg5 (by simp; omega) (fun k hk => (ho4.out.lt k hk).1))
            replace ho5 := Lib.hid ho5
            clear hg5 hv5
            go_wp2_with fail
            go_roundw
            case rel => exact ⟨k + 1, true, _, by go_num, rfl, by omega, hn, ho5, hb5⟩
            case measure => simp [intOf]; omega
        · have hn : Hid (WithInv f.data.toList l (k + 1) true (out ++ [(mkB l[k]).data.toList])) := Lib.hid (hinv.out.on hlt)
          generalize mkB l[k] = X at hcw hc hn
          go_wp2_with (at_builtin; refine wpList_append_text rfl (.tmp 32) (.tmp 37) rfl w.heap.size u5 out wr.heap.size X rfl rfl (hown.out.below (Lays.alloc _ _).below) (by simp) (by simp) (by omega) (by simp; omega) ?_)
          intro v4 w4 ho4 hg4 hv4
          have hb4 := Lib.hid ((hb.out.alloc hb.out.size _).grown hg4 (by simp; omega) (fun k hk => (hown.out.lt k hk).1))
          replace ho4 := Lib.hid ho4
          clear hg4 hv4
          go_wp2_with fail
          go_roundw
          case rel => exact ⟨k + 1, true, _, by go_num, rfl, by omega, hn, ho4, hb4⟩
          case measure => simp [intOf]; omega
      · obtain rfl : k = l.length := by omega
        have he := Lib.hid hinv.out.end_
        cases d
        · go_wp2_with (at_builtin; refine wpList_append_text rfl (.tmp 41) (.tmp 43) rfl w.heap.size u5 out wr.heap.size f rfl rfl (hown.out.below (Lays.alloc _ _).below) (by simp) (by simp) (by omega) (by simp; omega) ?_)
          intro v4 w4 ho4 hg4 hv4
          have hb4 := Lib.hid ((hb.out.alloc hb.out.size _).grown hg4 (by simp; omega) (fun k hk => (hown.out.lt k hk).1))
          replace ho4 := Lib.hid ho4
          clear hg4 hv4
          go_wp2_with fail
          go_ret
          exact ⟨_, rfl, Lib.hid (by rw [hw.out, he.out]; exact ho4.out.rd), hb4⟩
        · go_wp2_with fail
          go_ret
          exact ⟨_, rfl, Lib.hid (by rw [hw.out, he.out]; exact hown.out.rd), hb⟩
end Go.Proofs.YtfglfoapgpghkaaDoor
