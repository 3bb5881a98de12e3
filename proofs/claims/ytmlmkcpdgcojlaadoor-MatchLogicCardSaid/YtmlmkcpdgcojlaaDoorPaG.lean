/- Fields: its closure walked, as an iterator. -/
import Derived.RangeFuncNested
import Derived.RangeFuncBound
import Derived.RangeFuncCalls
import Derived.RangeFuncLeaves
import Derived.RangeFuncBox
import Derived.Shelf.Abstract
import Derived.Shelf.RegionOpen
import Derived.OwnWalkIn
import Derived.TacticsInMore
import Derived.LoopNIn
import Derived.LoopIn
import Derived.Test.YtmlmkcpdgcojlaaDoorPaF
namespace Go.Proofs.YtmlmkcpdgcojlaaDoor
open Go.RowKit Go.Shelf
attribute [local go_sem] Oper.semAt_some

/-- what a round keeps: block 0, and all rows of cells from block B on -/
def KpC (B : Nat) (W W' : World) : Prop := Below 1 W W' ∧ ∀ (b : Nat) (o : Obj), B ≤ b → W.heap[b]? = some o → o.isCells = true → W'.heap[b]? = some o
theorem KpC.refl (B : Nat) (W : World) : KpC B W W := ⟨Below.refl _ _, fun _ _ _ h _ => h⟩
theorem KpC.trans {B : Nat} {X Y Z : World} (h : KpC B X Y) (k : KpC B Y Z) : KpC B X Z := ⟨h.1.trans k.1, fun b o hb ho hc => k.2 b o hb (h.2 b o hb ho hc) hc⟩
theorem KpC.below {B : Nat} {X Y Z : World} (h : KpC B X Y) (k : Below Y.heap.size Y Z) (h1 : 1 ≤ Y.heap.size) : KpC B X Z :=
  ⟨h.1.trans (k.mono h1), fun b o hb ho hc => by
    have := h.2 b o hb ho hc
    rw [← this]
    exact k.block b (Array.getElem?_eq_some_iff.1 this).1⟩
theorem KpC.setCell {B : Nat} {X Y : World} (h : KpC B X Y) (p : Addr) (v : Value) (h1 : 1 ≤ p.block) (h2 : p.block < B) : KpC B X (Y.setCell p v) :=
  ⟨h.1.setCell (p := p) h1 _, fun b o hb ho hc => by
    rw [heap_setCell_other Y p b v (by omega)]
    exact h.2 b o hb ho hc⟩
theorem KpC.put {B : Nat} {w : World} (h1 : 1 ≤ w.heap.size) (W : World) (l : Nat) (o o' : Obj) (hl : w.heap.size ≤ l) (h : W.heap[l]? = some o) (hc : o.isCells = false) (hw : o.isWalk = false) : KpC B W (W.putObj l o') :=
  ⟨belowK_b h1 W l o o' hl h hc hw, fun b x _ hx hcx => by
    by_cases e : b = l
    · subst e; rw [h] at hx; cases hx; rw [hc] at hcx; cases hcx
    · rw [World.putObj_heap_other (by omega)]; exact hx⟩
theorem KpC.cell {B : Nat} {W W' : World} (h : KpC B W W') {g j : Nat} {v : Value} (hg : B ≤ g) (hc : W.cell? ⟨g, j, none⟩ = some v) : W'.cell? ⟨g, j, none⟩ = some v := by
  unfold World.cell? at hc ⊢
  cases ho : W.heap[g]? with
  | none => simp [ho] at hc
  | some o =>
    cases o with
    | cells C e fr =>
      rw [ho] at hc
      rw [h.2 g _ hg ho rfl]
      exact hc
    | _ => simp [ho] at hc
/-- a field of few bytes -/
def Fld : Type := { x : List UInt8 × List UInt8 // x.1.length ≤ 4194304 ∧ x.2.length ≤ 4194304 }
def encF (x : Fld) : Array Value := #[encStr x.1.1, encStr x.1.2]
def vals (l : List Fld) : List (List UInt8 × List UInt8) := l.map (·.1)
theorem abides_below {β : Type} {B : Nat} {J : β → World → Prop} (h : AbidesFrom B J) {s : β} {W W' : World} (hJ : J s W) (hb : Below W.heap.size W W') : J s W' :=
  h s W W' none hJ ⟨hb.os, hb.tape, hb.output, hb.size, fun k hk _ => hb.block k hk⟩ (fun r e => by cases e)
theorem cut_len (l : List UInt8) : (Lib.cut l [58]).1.length ≤ l.length ∧ (Lib.cut l [58]).2.1.length ≤ l.length := by
  unfold Lib.cut
  split
  · simp only [List.length_take, List.length_drop]; omega
  · simp
theorem trim_len (l cs : List UInt8) : (Lib.trimS l cs).length ≤ l.length := by
  unfold Lib.trimS Lib.trimLeftS Lib.trimRightS
  have h1 : ∀ (p : UInt8 → Bool) (l : List UInt8), (l.dropWhile p).length ≤ l.length := fun p l => (List.dropWhile_sublist p).length_le
  refine Nat.le_trans (h1 _ _) ?_
  rw [List.length_reverse]
  refine Nat.le_trans (h1 _ _) ?_
  rw [List.length_reverse]; exact Nat.le_refl _
theorem fm_succ {ls : List (List UInt8)} {k : Nat} (h : k < ls.length) : (ls.take (k + 1)).filterMap fieldL = (ls.take k).filterMap fieldL ++ (match fieldL ls[k] with | none => [] | some x => [x]) := by
  rw [List.take_succ_eq_append_getElem h, List.filterMap_append]
  congr 1
  rw [List.filterMap_cons]
  cases fieldL ls[k] <;> rfl
theorem fm_len (ls : List (List UInt8)) : (ls.filterMap fieldL).length ≤ ls.length := List.length_filterMap_le _ _
theorem fm_prefix (ls : List (List UInt8)) (k : Nat) : (ls.take k).filterMap fieldL <+: ls.filterMap fieldL := by
  have h : ls.filterMap fieldL = (ls.take k).filterMap fieldL ++ (ls.drop k).filterMap fieldL := by rw [← List.filterMap_append, List.take_append_drop]
  exact ⟨_, h.symm⟩
set_option maxRecDepth 100000 in
set_option maxHeartbeats 2000000 in
theorem fields1_in (n : Nat) (hn : 1 ≤ n) (l B Bs : Nat) (s : ByteArray) (hs : s.size ≤ 4194304) (m : Int) (J Jx : List Fld → World → Prop) (W : World) (hB : B ≤ W.heap.size) (h1W : 1 ≤ W.heap.size) (hJA : AbidesFrom W.heap.size J)
    (hY : ∀ pre x W1, J pre W1 → pre.length < (fieldLines s.data.toList).length → YieldAt Fence.wide (n - 1) Tryd.prog l (encF x) W1 fun e W' =>
      (e = .returned (.bool true) ∧ J (pre ++ [x]) W' ∧ KpC B W1 W') ∨ (e = .returned (.bool false) ∧ Jx (pre ++ [x]) W'))
    (hm : W.cell? ⟨0, 0, none⟩ = some (.int .i64 m)) (hc : W.cell? ⟨Bs, 0, none⟩ = some (.string s)) (h0 : J [] W) :
    CallsIn Fence.wide n Tryd.prog 36 #[.func (.yield l) #[] #[], .pointer (some ⟨Bs, 0, none⟩)] W fun e W' => (∃ v, e = .returned v) ∧
      ((∃ ys, vals ys = fieldsL s.data.toList ∧ J ys W') ∨ (∃ pre, vals pre <+: fieldsL s.data.toList ∧ Jx pre W')) := by
  have hsp := Lib.hid (split_any s (by omega) m W hm)
  have hlen := fieldLines_len s.data.toList
  have hsl := split_len s.data.toList
  have hfl : fieldsL s.data.toList = (fieldLines s.data.toList).filterMap fieldL := rfl
  rw [hfl]
  have hfd : fieldLines s.data.toList = unfL (linesL (splitM s.data.toList).1) := rfl
  rw [show s.data.toList.length = s.size from rfl] at hlen hsl
  obtain ⟨hl1, hl2⟩ := hlen
  refine callsIn_of_wp Tryd.func36 rfl trivial ?_ rfl
  simp only [Tryd.ntmps36, List.size_toArray, List.length_cons, List.length_nil, Nat.reduceAdd, Nat.reduceSub, Array.replicate_succ, Array.replicate_zero, List.push_toArray, List.append_toArray, List.nil_append, List.cons_append]
  gi_wp2
  refine ⟨trivial, (callsIn_wide.2 hsp.out).mono ?_⟩
  rintro e w1 ⟨h, t, rfl, hht, dr, rfl⟩
  have hb1 : Below W.heap.size W (W.drewN dr) := below_drewN (Below.refl _ _) dr
  have hunf := unfolded_any h (by rw [Lib.size_eq, hht.out.1]; omega) m (W.drewN dr) hm
  rw [hht.out.1] at hunf
  unfold UnfRet at hunf
  rw [← hfd] at hunf
  replace hunf := Lib.hid hunf
  clear hsp hht hfd hsl
  gi_wp2
  refine ⟨trivial, (callsIn_wide.2 hunf.out).mono ?_⟩
  rintro e W2 ⟨v2, rfl, hrow, hb2⟩
  clear hunf
  obtain ⟨ao, cap, rfl⟩ := hrow.out.form
  have hbW : Below W.heap.size W W2 := hb1.trans hb2.out
  have hJ2 : J [] W2 := abides_below hJA h0 hbW
  generalize hL : fieldLines s.data.toList = L at hfl hY hl1 hl2 hrow ⊢
  replace hL := Lib.hid hL
  gi_wp2
  gi_loopw [18] (fun vk wr => ∃ (k : Nat) (pre : List Fld), vk = .int .i64 k ∧ k ≤ L.length ∧ vals pre = (L.take k).filterMap fieldL ∧ J pre wr ∧ Hid (KpC B W2 wr)) (fun vk _ => L.length - (intOf vk).toNat)
  case atStart => exact ⟨0, [], rfl, Nat.zero_le _, rfl, hJ2, Lib.hid (KpC.refl _ _)⟩
  case round =>
    obtain ⟨k, pre, rfl, hk, hpre, hJk, hkp⟩ := hrel
    by_cases hlt : k < L.length
    · obtain ⟨g, rfl, hgB, hgl, hcap⟩ := hrow.out.pos (by omega)
      have hgB' : B ≤ g := Nat.le_trans hB hgB
      have hsz := hkp.out.1.size
      have hcw : wr.cell? ⟨g, k, none⟩ = some (.string (mkB L[k])) := hkp.out.cell hgB' (by
        rw [World.ownsRow.cellAt hrow.out k (by omega)]
        rw [List.getElem?_map, List.getElem?_eq_getElem hlt]; rfl)
      have hXs : (mkB L[k]).size ≤ s.size := by have := mem_flat_len (List.getElem_mem hlt); show L[k].length ≤ _; omega
      have hmr : wr.cell? ⟨0, 0, none⟩ = some (.int .i64 m) := (hkp.out.1.cell (p := ⟨0, 0, none⟩) (by decide)).trans ((hbW.cell (p := ⟨0, 0, none⟩) (by show 0 < _; omega)).trans hm)
      have hcut := Tryd.strings_Cut (mkB L[k]) ⟨#[58]⟩ m wr (by omega) hmr
      have hfs : Hid ((L.take (k + 1)).filterMap fieldL = vals pre ++ (match fieldL L[k] with | none => [] | some x => [x])) := Lib.hid (by rw [fm_succ hlt, hpre])
      have hpl : pre.length ≤ k := by
        have := fm_len (L.take k)
        rw [← hpre, vals, List.length_map, List.length_take] at this; omega
      have hpf : Hid ((L.take (k + 1)).filterMap fieldL <+: L.filterMap fieldL) := Lib.hid (fm_prefix L (k + 1))
      have hcl := cut_len L[k]
      rw [fieldL] at hfs
      rw [mkB_list] at hcut
      replace hcut : Calls Tryd.prog 38 #[.string (mkB L[k]), .string ⟨#[58]⟩] wr fun e w' => e = .returned (.tuple #[encStr (Lib.cut L[k] [58]).1, encStr (Lib.cut L[k] [58]).2.1, .bool (Lib.cut L[k] [58]).2.2]) ∧ ∃ n, w' = wr.drewN n := hcut
      replace hXs : L[k].length ≤ s.size := hXs
      obtain ⟨⟨a, b, ok⟩, hC⟩ : ∃ C, Lib.cut L[k] [58] = C := ⟨_, rfl⟩
      rw [hC] at hcut hfs hcl
      obtain ⟨hcl1, hcl2⟩ := hcl
      replace hcut := Lib.hid hcut
      generalize mkB L[k] = X at hcw hcut
      clear hC hmr
      dsimp only at hfs hcl1 hcl2
      cases ok
      · have hn : vals pre = (L.take (k + 1)).filterMap fieldL := by rw [hfs.out, if_neg (by simp)]; simp
        gi_wp2
        refine ⟨trivial, (callsIn_wide.2 hcut.out).mono ?_⟩
        rintro e w3 ⟨rfl, dr3, rfl⟩
        have hJ3 : J pre (wr.drewN dr3) := abides_below hJA hJk (below_drewN (Below.refl _ _) dr3)
        have hk3 := Lib.hid (hkp.out.below (below_drewN (Below.refl _ _) dr3) (by omega))
        clear hcut hfs hpf
        gi_wp2
        refine ⟨trivial, ?_⟩
        gi_wp2
        refine ⟨fun _ h => (by cases h), ?_⟩
        gi_wp2
        go_roundw
        case rel => exact ⟨k + 1, pre, by go_num, by omega, hn, hJ3, hk3⟩
        case measure => simp [intOf]; omega
      · by_cases ha : a = []
        · have hn : vals pre = (L.take (k + 1)).filterMap fieldL := by rw [hfs.out, if_neg (by simp [ha])]; simp
          have he : (mkB a).toList.isEmpty = true := by rw [ByteArray.toList_eq, ha]; rfl
          replace ha := Lib.hid ha
          replace hcut : Hid (Calls Tryd.prog 38 #[.string X, .string ⟨#[58]⟩] wr fun e w' => e = .returned (.tuple #[.string (mkB a), encStr b, .bool true]) ∧ ∃ n, w' = wr.drewN n) := hcut
          generalize mkB a = A at hcut he
          gi_wp2
          refine ⟨trivial, (callsIn_wide.2 hcut.out).mono ?_⟩
          rintro e w3 ⟨rfl, dr3, rfl⟩
          have hJ3 : J pre (wr.drewN dr3) := abides_below hJA hJk (below_drewN (Below.refl _ _) dr3)
          have hk3 := Lib.hid (hkp.out.below (below_drewN (Below.refl _ _) dr3) (by omega))
          clear hcut hfs hpf
          gi_wp2
          refine ⟨trivial, ?_⟩
          gi_wp2
          refine ⟨fun _ h => (by cases h), ?_⟩
          gi_wp2
          go_roundw
          case rel => exact ⟨k + 1, pre, by go_num, by omega, hn, hJ3, hk3⟩
          case measure => simp [intOf]; omega
        · have hx : (a, Lib.trimS b [32, 9]).1.length ≤ 4194304 ∧ (a, Lib.trimS b [32, 9]).2.length ≤ 4194304 := ⟨by show a.length ≤ _; omega, by show (Lib.trimS b [32, 9]).length ≤ _; have := trim_len b [32, 9]; omega⟩
          have hn : vals (pre ++ [⟨(a, Lib.trimS b [32, 9]), hx⟩]) = (L.take (k + 1)).filterMap fieldL := by rw [hfs.out, if_pos ⟨rfl, ha⟩, vals, List.map_append]; rfl
          have he : (mkB a).toList.isEmpty = false := by rw [ByteArray.toList_eq, Bool.eq_false_iff]; intro h; exact ha (by rw [List.isEmpty_iff] at h; exact h)
          have hbs : (mkB b).size ≤ 140737488355328 := by show b.length ≤ _; omega
          have htr := fun w => trim_bl (mkB b) hbs w
          replace htr : ∀ w, Calls Tryd.prog 39 #[.string (mkB b), .string ⟨#[32, 9]⟩] w fun e w' => e = .returned (encStr (Lib.trimS b [32, 9])) ∧ Below w.heap.size w w' := htr
          replace ha := Lib.hid ha
          replace htr := Lib.hid htr
          replace hcut : Hid (Calls Tryd.prog 38 #[.string X, .string ⟨#[58]⟩] wr fun e w' => e = .returned (.tuple #[.string (mkB a), .string (mkB b), .bool true]) ∧ ∃ n, w' = wr.drewN n) := hcut
          replace hY := fun w hJ => hY pre ⟨(a, Lib.trimS b [32, 9]), hx⟩ w hJ (by omega)
          have hpe : vals (pre ++ [⟨(a, Lib.trimS b [32, 9]), hx⟩]) <+: fieldsL s.data.toList := by rw [hn, hfl]; exact hpf.out
          obtain ⟨x, hxd⟩ : ∃ x : Fld, x = ⟨(a, Lib.trimS b [32, 9]), hx⟩ := ⟨_, rfl⟩
          rw [← hxd] at hY hn hpe
          have hex : encF x = #[.string (mkB a), encStr (Lib.trimS b [32, 9])] := by rw [hxd]; rfl
          rw [hex] at hY
          clear hxd hex hfs hpf
          generalize mkB a = A at hcut he hY
          generalize encStr (Lib.trimS b [32, 9]) = V at htr hY
          generalize mkB b = Bv at hcut htr hbs
          replace hY := Lib.hid hY
          gi_wp2
          refine ⟨trivial, (callsIn_wide.2 hcut.out).mono ?_⟩
          rintro e w3 ⟨rfl, dr3, rfl⟩
          gi_wp2
          refine ⟨trivial, (callsIn_wide.2 (htr.out _)).mono ?_⟩
          rintro e w4 ⟨rfl, hb4⟩
          have hb4' : Below wr.heap.size wr w4 := (below_drewN (Below.refl _ _) dr3).trans hb4
          have hJ4 : J pre w4 := abides_below hJA hJk hb4'
          have hk4 := Lib.hid (hkp.out.below hb4' (by omega))
          obtain ⟨fn, tmps, assign, body, hy, hR⟩ := hY.out w4 hJ4
          clear hcut htr hY
          gi_wp2
          refine hR.mono ?_
          rintro e W5 (⟨rfl, hJ5, hk5⟩ | ⟨rfl, hJx5⟩)
          · have hk6 := Lib.hid (hk4.out.trans hk5)
            clear hk5
            gi_wp2
            go_roundw
            case rel => exact ⟨k + 1, _, by go_num, by omega, hn, hJ5, hk6⟩
            case measure => simp [intOf]; omega
          · gi_wp2
            refine bodyPost_ret (results_none rfl _ _ _) rfl ?_
            exact ⟨⟨_, rfl⟩, .inr ⟨_, by rw [hL.out, ← hfl]; exact hpe, hJx5⟩⟩
    · obtain rfl : k = L.length := by omega
      gi_wp2
      go_end0
      exact ⟨⟨_, rfl⟩, .inl ⟨pre, by rw [hL.out, hpre, List.take_length], hJk⟩⟩
/-- **Fields(m)'s value is an iterator over the fields**, whatever the rounds do, as long as they keep rows of cells from B on -/
theorem fields_stops (n : Nat) (hn : 1 ≤ n) (B Bs : Nat) (s : ByteArray) (hs : s.size ≤ 4194304) (m : Int) (w : World) (hB : B ≤ w.heap.size) (hBs : Bs < w.heap.size) (h1 : 1 ≤ w.heap.size) (hm : w.cell? ⟨0, 0, none⟩ = some (.int .i64 m)) (hc : w.cell? ⟨Bs, 0, none⟩ = some (.string s)) :
    SeqStopsK Fence.wide n Tryd.prog 36 #[.pointer (some ⟨Bs, 0, none⟩)] encF (KpC B) (fun ys => vals ys = fieldsL s.data.toList) (fun pre => vals pre <+: fieldsL s.data.toList) (fieldLines s.data.toList).length w :=
  fun l J Jx W hW hJ _ hY h0 => fields1_in n hn l B Bs s hs m J Jx W (Nat.le_trans hB hW.size) (Nat.le_trans h1 hW.size) hJ hY ((hW.cell (p := ⟨0, 0, none⟩) (by show 0 < _; omega)).trans hm) ((hW.cell (p := ⟨Bs, 0, none⟩) hBs).trans hc) h0
set_option maxHeartbeats 1000000 in
/-- Fields(m): the text is boxed; the function value captures the box -/
theorem fields_in (s : ByteArray) (w : World) :
    Calls Tryd.prog 32 #[.string s] w fun e w' => e = .returned (.func (.func 36) #[] #[.pointer (some ⟨w.heap.size, 0, none⟩)]) ∧ w' = w.alloc (.cells #[.string s] 9) := by
  go_enter Tryd.func32, Tryd.ntmps32
  go_wp2_with fail
  go_ret
  exact ⟨rfl, rfl⟩
end Go.Proofs.YtmlmkcpdgcojlaaDoor
