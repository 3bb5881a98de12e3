/- Match: walked. -/
import Derived.Test.YtmlmkcpdgcojlaaDoorMaE
namespace Go.Proofs.YtmlmkcpdgcojlaaDoor
open Go.RowKit

def matchL (ks : List KeyD) (x : LetterD) (p : PlaceD) (m : List UInt8) : Bool := wholeL ks && (saysI ks (fun k => leafL k x p m) (ks.length + 1) 0).1
theorem KeysIn.mono {w : World} {B B' : Nat} {v : Value} {ks : List KeyD} (h : KeysIn w B v ks) (hb : B ≤ B') : KeysIn w B' v ks := by
  obtain ⟨ao, cap, hv, h | ⟨b, o, ha, hlt, hle, hc⟩⟩ := h
  · exact ⟨ao, cap, hv, .inl h⟩
  · exact ⟨ao, cap, hv, .inr ⟨b, o, ha, by omega, hle, hc⟩⟩
theorem cells_new (w : World) (C : Array Value) (t : TypeId) : (w.alloc (.cells C t)).heap[w.heap.size]? = some (.cells C t (0, 0)) := heap_alloc_new w _
theorem cells_kept {w : World} {b : Nat} {o : Obj} (h : w.heap[b]? = some o) (o' : Obj) : (w.alloc o').heap[b]? = some o := heap_below h ((Below.refl _ w).alloc (Nat.le_refl _) _)
set_option maxRecDepth 100000 in
set_option maxHeartbeats 4000000 in
theorem match_any (ks : List KeyD) (v : Value) (x : LetterD) (p : PlaceD) (s : ByteArray) (m : Int) (w : World) (hs : s.size ≤ 4194304) (hA : Asked w w.heap.size ks v x m) :
    Calls Tryd.prog 11 #[v, letterV x, placeV p, .string s] w fun e w' => e = .returned (.bool (matchL ks x p s.data.toList)) ∧ Hid (Below w.heap.size w w') := by
  obtain ⟨ao, cap, hv, hkeys⟩ := hA.keys
  obtain ⟨Wb, hWb⟩ : ∃ Wb, Wb = ((((w.alloc (.cells #[v] 22)).alloc (.cells #[.int .u64 x.uid, .slice x.fa x.fn x.fc, .int .u64 x.md, .string x.hash, .int .u64 x.size] 26)).alloc (.cells #[.int .u64 p.seq, .int .u64 p.mostSeq, .int .u64 p.mostUid] 28)).alloc (.cells #[.string s] 9)) := ⟨_, rfl⟩
  have hbb : Below w.heap.size w Wb := by
    rw [hWb]; exact ((((Below.refl _ w).alloc (Nat.le_refl _) _).alloc (by simp) _).alloc (by simp; omega) _).alloc (by simp; omega) _
  have hz : Wb.heap.size = w.heap.size + 4 := by rw [hWb]; simp
  have b0 : Boxed Wb w.heap.size 22 v := by
    rw [hWb]; exact cells_kept (cells_kept (cells_kept (cells_new w #[v] 22) _) _) _
  have b1 : Wb.heap[w.heap.size + 1]? = some (.cells #[.int .u64 x.uid, .slice x.fa x.fn x.fc, .int .u64 x.md, .string x.hash, .int .u64 x.size] 26 (0, 0)) := by
    rw [hWb]
    have h := cells_new (w.alloc (.cells #[v] 22)) #[.int .u64 x.uid, .slice x.fa x.fn x.fc, .int .u64 x.md, .string x.hash, .int .u64 x.size] 26
    rw [World.size_alloc] at h
    exact cells_kept (cells_kept h _) _
  have b2 : Wb.heap[w.heap.size + 1 + 1]? = some (.cells #[.int .u64 p.seq, .int .u64 p.mostSeq, .int .u64 p.mostUid] 28 (0, 0)) := by
    rw [hWb]
    have h := cells_new ((w.alloc (.cells #[v] 22)).alloc (.cells #[.int .u64 x.uid, .slice x.fa x.fn x.fc, .int .u64 x.md, .string x.hash, .int .u64 x.size] 26)) #[.int .u64 p.seq, .int .u64 p.mostSeq, .int .u64 p.mostUid] 28
    rw [World.size_alloc, World.size_alloc] at h
    exact cells_kept h _
  have b3 : Boxed Wb (w.heap.size + 1 + 1 + 1) 9 (.string s) := by
    rw [hWb]
    have h := cells_new (((w.alloc (.cells #[v] 22)).alloc (.cells #[.int .u64 x.uid, .slice x.fa x.fn x.fc, .int .u64 x.md, .string x.hash, .int .u64 x.size] 26)).alloc (.cells #[.int .u64 p.seq, .int .u64 p.mostSeq, .int .u64 p.mostUid] 28)) #[.string s] 9
    rw [World.size_alloc, World.size_alloc, World.size_alloc] at h
    exact h
  have hwh := Lib.hid (whole_any ks v hA.wf Wb ((hA.keys.later hbb).mono hbb.size))
  have hkeep := Lib.hid hA
  unfold letterV placeV
  clear hA hkeys
  subst hv
  go_enter Tryd.func11, Tryd.ntmps11
  go_wp2_with fail
  rw [← hWb]
  clear hWb
  refine hwh.out.mono ?_
  rintro e W1 ⟨rfl, hb1⟩
  have c0 := boxed_below b0 hb1.out
  have c1 := heap_below b1 hb1.out
  have c2 := heap_below b2 hb1.out
  have c3 := boxed_below b3 hb1.out
  have hB1 := Lib.hid (hbb.trans (hb1.out.mono hbb.size))
  have hz1 := hb1.out.size
  rw [hz] at hz1
  clear b0 b1 b2 b3 hwh hb1 hbb hz
  cases hW : wholeL ks
  · have hL : Hid (matchL ks x p s.data.toList = false) := Lib.hid (by rw [matchL, hW]; rfl)
    go_wp2_with fail
    go_ret
    exact ⟨by rw [hL.out]; rfl, hB1⟩
  · have hL : Hid (matchL ks x p s.data.toList = (saysI ks (fun k => leafL k x p s.data.toList) (ks.length + 1) 0).1) := Lib.hid (by rw [matchL, hW]; rfl)
    rw [wholeL, Bool.and_eq_true, decide_eq_true_eq, beq_iff_eq] at hW
    obtain ⟨hl, hone⟩ := hW
    have hcl := c0.cell
    replace hone := Lib.hid hone
    go_wp2_with fail
    have d2 := Boxed.new W1 3 (.int .i64 0)
    have d3 := Boxed.new (W1.alloc (.cells #[.int .i64 0] 3)) 31 (.func (.func 17) #[] #[.pointer (some ⟨w.heap.size, 0, none⟩), .pointer (some ⟨W1.heap.size, 0, none⟩), .pointer (some ⟨W1.heap.size + 1, 0, none⟩), .pointer (some ⟨w.heap.size + 1, 0, none⟩), .pointer (some ⟨w.heap.size + 1 + 1, 0, none⟩), .pointer (some ⟨w.heap.size + 1 + 1 + 1, 0, none⟩)])
    rw [World.size_alloc] at d3
    have hM : SaysMem w _ w.heap.size w.heap.size W1.heap.size (W1.heap.size + 1) (w.heap.size + 1) (w.heap.size + 1 + 1) (w.heap.size + 1 + 1 + 1) (.slice ao ks.length cap) x p s 0 :=
      ⟨(hB1.out.alloc (by omega) _).alloc (by simp; omega) _, (c0.alloc _).alloc _, d2.alloc _, d3, cells_kept (cells_kept c1 _) _, cells_kept (cells_kept c2 _) _, (c3.alloc _).alloc _, by omega, by simp; omega, by refine ⟨?_, ?_, ?_, ?_, ?_⟩ <;> omega⟩
    refine (says_any ks hl w w.heap.size _ _ _ _ _ _ _ x p s m hs hkeep.out (ks.length + 1) 0 1 ks.length _ hone.out hM).mono ?_
    rintro e W3 ⟨rfl, hM3, _⟩
    clear hM d2 d3 c0 c1 c2 c3 hcl hone
    go_wp2_with fail
    go_ret
    exact ⟨by rw [hL.out]; rfl, Lib.hid hM3.out.base⟩
end Go.Proofs.YtmlmkcpdgcojlaaDoor
