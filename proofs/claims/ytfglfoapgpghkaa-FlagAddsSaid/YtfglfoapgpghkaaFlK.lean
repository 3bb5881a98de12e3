/- Lists put together (slices.Concat), lists without (slices.DeleteFunc): the three changes of the layer flag. -/
import Derived.Test.YtfglfoapgpghkaaFlJ
import Derived.Lib.AppendZeros
namespace Go.Proofs.Ytfglfoapgpghkaa
open Go.RowKit Go.Lib Go.Sort

/-- the test of 'without': does x stand in the list that is held in the closure's box? -/
theorem no1_any (x : List UInt8) (bp : Nat) (v : Value) (l : List (List UInt8)) (w : World) (hb : w.cell? ⟨bp, 0, none⟩ = some v) (hr : Rd w v l.length (l.map encStr)) (hl : l.length * 16 ≤ 140737488355328) :
    Calls Try.prog 50 #[encStr x, .pointer (some ⟨bp, 0, none⟩)] w fun e w' => e = .returned (.bool (decide (x ∈ l))) ∧ w = w' := by
  have hh := Lib.hid (has_any v l (mkB x) w hr hl)
  rw [mkB_list] at hh
  obtain ⟨ao, cap, rfl, -⟩ := hr
  go_enter Try.func50, Try.ntmps50
  go_wp2_with fail
  refine hh.out.mono ?_
  rintro e w' ⟨rfl, rfl⟩
  go_wp2_with fail
  go_ret
  exact ⟨rfl, rfl⟩
theorem indexFunc_none (ao : Option Addr) (cap : Nat) (fv : Value) (w : World) : Calls Try.prog 61 #[.slice ao 0 cap, fv] w fun e w' => e = .returned (.int .i64 (-1)) ∧ w = w' := by
  go_enter Try.func61, Try.ntmps61
  go_wp2_with fail
  go_loop [8] (fun vk => vk = .int .i64 0) (fun _ => 0)
  case atStart => rfl
  case round =>
    subst hrel
    go_wp2_with fail
    go_ret
    exact ⟨rfl, rfl⟩
theorem deleteFunc_none (ao : Option Addr) (cap : Nat) (fv : Value) (w : World) : Calls Try.prog 49 #[.slice ao 0 cap, fv] w fun e w' => e = .returned (.slice ao 0 cap) ∧ w = w' := by
  go_enter Try.func49, Try.ntmps49
  go_wp2_with fail
  refine (indexFunc_none ao cap fv w).mono ?_
  rintro e w' ⟨rfl, rfl⟩
  have hq : ((-1 : Int) == -1) = true := by decide
  go_wp2_with fail
  go_ret
  exact ⟨rfl, rfl⟩
def RetRdB (l : List (List UInt8)) (w : World) (e : Ending) (w' : World) : Prop := ∃ v', e = .returned v' ∧ Hid (Rd w' v' l.length (l.map encStr)) ∧ Hid (Below w.heap.size w w')
theorem becomes_any (u v : Value) (l : List (List UInt8)) (w : World) (hr : Rd w v l.length (l.map encStr)) (hl : l.length * 16 ≤ 140737488355328) :
    Calls Try.prog 34 #[u, v] w (RetRdB (fset l) w) := by
  have hr0 := Lib.hid hr
  obtain ⟨ao, cap, rfl, -⟩ := hr
  go_enter Try.func34, Try.ntmps34
  go_wp2_with fail
  refine (set_any _ l w hr0.out hl).mono ?_
  rintro e w1 ⟨v1, rfl, h1, b1⟩
  have hrd := Lib.hid h1.out.rd
  obtain ⟨ao1, cap1, rfl, -⟩ : ∃ ao cap, v1 = .slice ao (fset l).length cap ∧ True := by
    obtain ⟨ao, cap, h, _⟩ := h1.out; exact ⟨ao, cap, h, trivial⟩
  clear h1
  go_wp2_with fail
  go_ret
  exact ⟨_, rfl, hrd, b1⟩
theorem holds_rd {w : World} {g cap : Nat} {l : List (List UInt8)} (hg : g < w.heap.size) (hc : l.length ≤ cap) (h : Holds encStr w g 0 l.toArray) : Rd w (.slice (some ⟨g, 0, none⟩) l.length cap) l.length (l.map encStr) :=
  HoldsSl.rd (B := 0) ⟨_, cap, rfl, .inr ⟨g, rfl, Nat.zero_le _, hg, hc, h⟩⟩
set_option maxRecDepth 100000 in
set_option maxHeartbeats 2000000 in
theorem without_any (v u : Value) (l by_ : List (List UInt8)) (w : World) (hr : Rd w v l.length (l.map encStr)) (hu : Rd w u by_.length (by_.map encStr)) (hl : l.length * 16 ≤ 140737488355328) (hul : by_.length * 16 ≤ 140737488355328) :
    Calls Try.prog 36 #[v, u] w (RetRdB ((fset l).filter fun x => !decide (x ∈ by_)) w) := by
  have eg : ∀ args w, (callFunc 50 args).run Try.prog w = .ok (.enter 50 args) w := enters_of Try.func50 (by kernel_rfl) rfl
  have hr0 := Lib.hid hr
  have hu0 := Lib.hid hu
  obtain ⟨ao, cap, rfl, -⟩ := hr
  obtain ⟨ao2, cap2, rfl, -⟩ := hu
  go_enter Try.func36, Try.ntmps36
  go_wp2_with fail
  have b0 : Below w.heap.size w (w.alloc (.cells #[.slice ao2 by_.length cap2] 22)) := (Lays.alloc _ _).below
  have hc0 : (w.alloc (.cells #[.slice ao2 by_.length cap2] 22)).cell? ⟨w.heap.size, 0, none⟩ = some (.slice ao2 by_.length cap2) := by simp
  have hz0 : (w.alloc (.cells #[.slice ao2 by_.length cap2] 22)).heap.size = w.heap.size + 1 := by simp
  refine (set_any _ l _ (hr0.out.below b0) hl).mono ?_
  generalize w.alloc (.cells #[.slice ao2 by_.length cap2] 22) = w0 at b0 hc0 hz0 ⊢
  rintro e w1 ⟨v1, rfl, h1, b1⟩
  have b01 : Below w.heap.size w w1 := b0.trans (b1.out.mono (by omega))
  have hat : ∀ W, Below (w.heap.size + 1) w1 W → Calls Try.prog 50 #[encStr [], .pointer (some ⟨w.heap.size, 0, none⟩)] W (fun e w' => True) ∧ ∀ x, FnGives Try.prog 50 #[.pointer (some ⟨w.heap.size, 0, none⟩)] #[encStr x] (.bool (decide (x ∈ by_))) W := fun W hW => by
    have hbW : Below w.heap.size w W := b01.trans (hW.mono (by omega))
    have hcW : W.cell? ⟨w.heap.size, 0, none⟩ = some (.slice ao2 by_.length cap2) := by
      rw [hW.cell (p := ⟨w.heap.size, 0, none⟩) (by simp), b1.out.cell (p := ⟨w.heap.size, 0, none⟩) (by simp; omega)]
      exact hc0
    have key := fun x => no1_any x w.heap.size (.slice ao2 by_.length cap2) by_ W hcW (hu0.out.below hbW) hul
    exact ⟨(key []).mono fun _ _ _ => trivial, fun x => (key x).mono fun _ _ ⟨he, hw⟩ => ⟨he, 0, hw.symm⟩⟩
  rcases h1.out with ⟨ao1, cap1, rfl, h1e | ⟨g, rfl, hg, hgl, hcap, hH⟩⟩
  · have he : (fset l).filter (fun x => !decide (x ∈ by_)) = [] := by rw [h1e]; rfl
    have hz : (fset l).length = 0 := by rw [h1e]; rfl
    rw [hz]
    clear hat h1
    go_wp2_with fail
    refine (deleteFunc_none ao1 cap1 _ w1).mono ?_
    rintro e w2 ⟨rfl, rfl⟩
    go_wp2_with fail
    go_ret
    exact ⟨_, rfl, Lib.hid (by rw [he]; exact ⟨ao1, cap1, rfl, .inl rfl⟩), Lib.hid b01⟩
  · have hle : (fset l).length ≤ l.length := setS_len flt l
    have hdel := Try.slices_DeleteFunc encStr one_encStr (fun x => decide (x ∈ by_)) 50 #[.pointer (some ⟨w.heap.size, 0, none⟩)] eg ([] : List UInt8) (fun w => by
        have h := str_info
        simp only [Option.map_eq_some_iff] at h
        obtain ⟨i, hi, he⟩ := h
        have hz : i.zero = some (.string ⟨#[]⟩) := congrArg (·.1) he
        simp [zeroValue, typeInfo, hi, hz, encStr]) g 0 cap1 (fset l).toArray w1
      (fun W x hW => (hat W (hW.mono (by have := b1.out.size; omega))).2 x)
      (fun n os dk x _ => (hat _ (below_sortWorld (Below.refl _ _) n g 0 dk os (by omega) (by have := b1.out.size; omega))).2 x)
      hH (by simp; omega) (by simpa using hcap)
    rw [show (fset l).toArray.size = (fset l).length from by simp] at hdel
    replace hdel := Lib.hid hdel
    replace hH := Lib.hid hH
    clear hat h1 b0 hc0
    obtain ⟨R, hR⟩ : ∃ R, Hid (R = (fset l).filter fun x => !decide (x ∈ by_)) := ⟨_, Lib.hid rfl⟩
    have hRl : R.length ≤ (fset l).length := by rw [hR.out]; exact List.length_filter_le _ _
    go_wp2_with fail
    refine hdel.out.mono ?_
    rintro e w2 ⟨rfl, q, hw2⟩
    have e1 : ((fset l).toArray.toList.filter fun x => !decide (x ∈ by_)) = R := by rw [hR.out]
    simp only [e1] at hw2
    rw [e1]
    have hH2 : Holds encStr w2 g 0 R.toArray := by
      rw [hw2]
      refine holds_left (b := List.replicate ((fset l).length - R.length) []) ?_
      exact holds_putRow encStr _ g 0 (fset l).toArray _ hH.out (by simp; omega)
    have hgl2 : g < w2.heap.size := by rw [hw2, size_putRow]; exact hgl
    have b2 : Below w.heap.size w w2 := by rw [hw2]; exact below_putRow b01 q g 0 _ (by omega)
    have hrd := Lib.hid (holds_rd (cap := cap1) hgl2 (by omega) hH2)
    replace b2 := Lib.hid b2
    clear hw2 hdel e1 hH2
    go_wp2_with fail
    go_ret
    exact ⟨_, rfl, Lib.hid (by rw [← hR.out]; exact hrd.out), b2⟩
end Go.Proofs.Ytfglfoapgpghkaa
