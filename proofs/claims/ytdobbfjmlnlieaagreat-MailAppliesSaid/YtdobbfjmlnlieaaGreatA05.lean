/- Atoms: the loops over a text that ask a byte predicate; the ; 'Upper', of the program and of the document: each byte in gr; Small letters: 'small' of the layer flag; new memory alone i; Sets as sorted lists, over any strict total order; plain, no; Flags in plain lists: as they are kept, and their or -/
import Derived.Test.YtdobbfjmlnlieaaGreatA01
import Derived.Test.YtdobbfjmlnlieaaGreatRows
import Derived.Test.YtdobbfjmlnlieaaGreatShelf
import Derived.Lib.SlicesCompact
import Derived.Lib.Bytealg
import Derived.WideShapes
import Derived.WideAt
namespace Go.Proofs.YtdobbfjmlnlieaaGreat
set_option linter.unusedSimpArgs false
namespace Tryz
end Tryz
open Go.Proofs.Tryz Go.Proofs.YtdobbfjmlnlieaaGreat.Tryz
section
open Go.RowKit
def ij_ (c : Int) : Bool := decide (0 < c) && decide (c < 128) && (c != 10 && c != 13)
set_option maxHeartbeats 400000 in
set_option maxHeartbeats 400000 in
def He (p : Int → Bool) (l : List UInt8) : Bool := l.all fun c => p c.toNat
theorem Ma (p : Int → Bool) (l : List UInt8) (c : UInt8) : He p (l ++ [c]) = (He p l && p c.toNat) := by
 simp [He]
theorem Jv (p : Int → Bool) (s : ByteArray) (k : Nat) (h : k < s.size) (hp : p s[k].toNat = false) : He p s.data.toList = false := by
 rw [← qh (k + 1) s.data.toList, vg s k h];simp [He, hp]
def Eg (p : Int → Bool) (l : List UInt8) : Bool := He p l && !l.isEmpty
structure gy_ (P : Program) (f : FuncId) (p : Int → Bool) : Prop where
 enter : ∀ args w, (callFunc f args).run P w = .ok (.enter f args) w
 says : ∀ (c : Int) (w : World), 0 ≤ c → c < 256 → Calls P f #[.int .u8 c] w fun e w' => e = .returned (.bool (p c)) ∧ w = w'
set_option maxHeartbeats 400000 in
theorem Tu (f : FuncId) (p : Int → Bool) (H : gy_ prog f p) (s : ByteArray) (hs : s.size ≤ maxLen) (w : World) :
  Calls prog 116 #[.string s, .func (.func f) #[] #[]] w fun e w' => e = .returned (.bool (Eg p s.data.toList)) ∧ w = w' := by
 unfold maxLen at hs;have hcf := H.enter;go_enter func116, ntmps116;go_wp2_with fail;go_loop [8] (fun i => ∃ k : Nat, k ≤ s.size ∧ i = .int .i64 k ∧ Hid (He p (s.data.toList.take k) = true)) (fun i => s.size - (intOf i).toNat)
 case atStart => exact ⟨0, dw _, rfl, rfl⟩
 case round =>
  obtain ⟨k, hk, rfl, hp⟩ := hrel;by_cases hlt : k < s.size
  ·have hsn : Hid (He p (s.data.toList.take (k+1)) = p s[k].toNat) := by
    show _ = _;rw [vg s k hlt, Ma, hp.out]; simp
   go_wp2_with fail;refine (H.says _ _ (fw_ _) (fx_ _)).mono ?_;rintro e w' ⟨rfl, rfl⟩;cases hc : p ↑s[k].toNat
   ·go_wp2_with fail;go_ret;exact ⟨mo (by simp [Eg, Jv p s k hlt hc]), rfl⟩
   go_wp2_with fail;refine ⟨⟨k + 1, by omega, by go_num, hsn.out.trans hc⟩, by simp [intOf]; omega⟩
  obtain rfl : k = s.size := by omega
  go_wp2_with fail;go_ret;rw [Bj] at hp;exact ⟨mo (by have := hp.out; simp [Eg, this, ib]), rfl⟩
def inL (c : Int) (l : List UInt8) : Bool := l.any fun d => (d.toNat : Int) == c
theorem dm_ (c : Int) (l : List UInt8) (d : UInt8) : inL c (l ++ [d]) = (inL c l || ((d.toNat : Int) == c)) := by simp [inL]
theorem dl_ (c : Int) (s : ByteArray) (k : Nat) (h : k < s.size) (hp : ((s[k].toNat : Int) == c) = true) : inL c s.data.toList = true := by
 rw [← qh (k + 1) s.data.toList, vg s k h];simp only [inL, zt, List.any_cons, hp]; simp
set_option maxHeartbeats 400000 in
theorem di_ (c : Int) (s : ByteArray) (hs : s.size ≤ maxLen) (w : World) :
  Calls prog 130 #[.int .u8 c, .string s] w fun e w' => e = .returned (.bool (inL c s.data.toList)) ∧ w = w' := by
 unfold maxLen at hs;go_enter func130, ntmps130;go_wp2_with fail;go_loop [5] (fun i => ∃ k : Nat, k ≤ s.size ∧ i = .int .i64 k ∧ Hid (inL c (s.data.toList.take k) = false)) (fun i => s.size - (intOf i).toNat)
 case atStart => exact ⟨0, dw _, rfl, rfl⟩
 case round =>
  obtain ⟨k, hk, rfl, hp⟩ := hrel;by_cases hlt : k < s.size
  ·have hsn : Hid (inL c (s.data.toList.take (k+1)) = ((s[k].toNat : Int) == c)) := by
    show _ = _;rw [vg s k hlt, dm_, hp.out]; simp
   cases hc : ((s[k].toNat : Int) == c)
   ·go_wp2_with fail;refine ⟨⟨k + 1, by omega, by go_num, hsn.out.trans hc⟩, by simp [intOf]; omega⟩
   go_wp2_with fail;go_ret;exact ⟨mo (dl_ c s k hlt hc).symm, rfl⟩
  obtain rfl : k = s.size := by omega
  go_wp2_with fail;go_ret;rw [Bj] at hp;exact ⟨mo hp.out.symm, rfl⟩
theorem Qu (l : List UInt8) (c : UInt8) : decide (Lib.indexByte l c < 0) = !inL c.toNat l := by
 induction l with
 | nil => simp [Lib.indexByte, inL]
 | cons b l ih =>
  have hge := Lib.indexByte_ge l c;have hb : ((b.toNat : Int) == (c.toNat : Int)) = (b == c) := by
   rw [Qe]; simp only [beq_iff_eq];exact ⟨fun h => ec_ h, fun h => by rw [h]⟩
  simp only [Lib.indexByte, inL, List.any_cons, hb] at ih ⊢;by_cases h : b = c;case neg =>
   have hf : (b == c) = false := (by simpa using h);simp only [hf, Bool.false_eq_true, if_false, ig];by_cases h2 : Lib.indexByte l c = -1
   ·simp [h2] at ih ⊢; exact ih
   have h1 : decide (Lib.indexByte l c < 0) = false := (by simp; omega);have h3 : decide (Lib.indexByte l c + 1 < 0) = false := (by simp; omega);rw [← ih, h1, bq (by simpa using h2), h3]
  case pos => simp [h]
theorem Wz (c : Int) (h0 : 0 ≤ c) (h1 : c < 256) : ((c.toNat.toUInt8.toNat : Nat) : Int) = c := by
 have : c.toNat.toUInt8.toNat = c.toNat % 256 := by simp
 rw [this]; omega
theorem Pg (l : List UInt8) (c : Int) (h0 : 0 ≤ c) (h1 : c < 256) : decide (Lib.indexByte l c.toNat.toUInt8 < 0) = !inL c l := by
 rw [Qu, Wz c h0 h1]
def v_ (c : Int) : Bool := decide (32 < c) && (decide (c < 127) && !inL c [40, 41, 123, 37, 42, 34, 92, 93])
def Ha (c : Int) : Bool := decide (32 ≤ c) && (decide (c < 127) && !inL c [37, 42, 34, 92])
set_option maxHeartbeats 400000 in
theorem Tt (c : Int) (w : World) :
  Calls prog 161 #[.int .u8 c] w fun e w' => e = .returned (.bool (v_ c)) ∧ w = w' := by
 go_enter func161, ntmps161;go_wp2_with (go_at_call 130; refine (di_ _ _ (by decide) _).mono ?_; rintro e w' ⟨rfl, rfl⟩);all_goals (go_ret; exact ⟨mo (by unfold v_; generalize inL c _ = b; cases b <;> simp <;> omega), rfl⟩)
theorem Jf (l : ByteArray) (c : Int) (h0 : 0 ≤ c) (h1 : c < 256) (w : World) :
  Calls prog 115 #[.string l, .int .u8 c] w fun e w' => ∃ r : Int, e = .returned (.int .i64 r) ∧ Hid (decide (r < 0) = !inL c l.data.toList) ∧ w = w' :=
 (strings_IndexByte l c w).mono fun _ _ ⟨he, hw⟩ => ⟨_, he, Pg _ c h0 h1, hw.symm⟩
set_option maxHeartbeats 400000 in
theorem bt_ (c : Int) (w : World) (h0 : 0 ≤ c) (h1 : c < 256) :
  Calls prog 176 #[.int .u8 c] w fun e w' => e = .returned (.bool (v_ c)) ∧ w = w' := by
 go_enter func176, ntmps176;go_wp2_with (go_at_call 115; refine (Jf _ _ (by omega) (by omega) _).mono ?_; rintro e w' ⟨r, rfl, hr, rfl⟩);all_goals (go_ret; first | (have hr := hr.out; exact ⟨mo (by rw [hr]; unfold v_; generalize inL c _ = b; cases b <;> simp <;> omega), rfl⟩) | exact ⟨mo (by unfold v_; generalize inL c _ = b; cases b <;> simp <;> omega), rfl⟩)
set_option maxHeartbeats 400000 in
theorem bw_ : gy_ prog 176 v_ := ⟨fun _ _ => by go_simp, fun c w h0 h1 => bt_ c w h0 h1⟩
set_option maxHeartbeats 400000 in
theorem ej_ (s : ByteArray) (hs : s.size ≤ maxLen) (w : World) :
  Calls prog 149 #[.string s] w fun e w' => e = .returned (.bool (Eg v_ s.data.toList)) ∧ w = w' := by
 go_enter func149, ntmps149;go_wp2_with (go_at_call 116; refine (Tu _ _ bw_ _ hs _).mono ?_; rintro e w' ⟨rfl, rfl⟩);go_ret;exact ⟨rfl, rfl⟩
set_option maxHeartbeats 400000 in
theorem Us (s : ByteArray) (hs : s.size ≤ maxLen) (w : World) :
  Calls prog 133 #[.string s] w fun e w' => e = .returned (.bool (Eg v_ s.data.toList)) ∧ w = w' := by
 unfold maxLen at hs;go_enter func133, ntmps133;go_wp2_with fail;go_loop [3] (fun i => ∃ k : Nat, k ≤ s.size ∧ i = .int .i64 k ∧ Hid (He v_ (s.data.toList.take k) = true)) (fun i => s.size - (intOf i).toNat)
 case atStart => exact ⟨0, dw _, rfl, rfl⟩
 case round =>
  obtain ⟨k, hk, rfl, hp⟩ := hrel;by_cases hlt : k < s.size
  ·have hsn : Hid (He v_ (s.data.toList.take (k+1)) = v_ s[k].toNat) := by
    show _ = _;rw [vg s k hlt, Ma, hp.out]; simp
   go_wp2_with fail;refine (Tt _ _).mono ?_;rintro e w' ⟨rfl, rfl⟩;cases hc : v_ ↑s[k].toNat
   ·go_wp2_with fail;go_ret;exact ⟨mo (by simp [Eg, Jv v_ s k hlt hc]), rfl⟩
   go_wp2_with fail;refine ⟨⟨k + 1, by omega, by go_num, hsn.out.trans hc⟩, by simp [intOf]; omega⟩
  obtain rfl : k = s.size := by omega
  go_wp2_with fail;go_ret;rw [Bj] at hp;exact ⟨mo (by have := hp.out; (first | rw [Eu] | rw [Oe]); simp [Eg, this]), rfl⟩
end
section
open Go.RowKit
def upB (c : UInt8) : UInt8 := if 97 ≤ c.toNat ∧ c.toNat ≤ 122 then c - 32 else c
def upL (l : List UInt8) : List UInt8 := l.map upB
theorem Nw (l : List UInt8) (c : UInt8) : upL (l ++ [c]) = upL l ++ [upB c] := by simp [upL]
theorem Yu (c : UInt8) (h1 : 97 ≤ (c.toNat : Int)) (h2 : (c.toNat : Int) ≤ 122) : ((upB c).toNat : Int) = c.toNat - 32 := by
 have : (c - 32).toNat = c.toNat - 32 := UInt8.toNat_sub_of_le _ _ (by show 32 ≤ _; rw [UInt8.le_iff_toNat_le]; show 32 ≤ c.toNat; omega);rw [upB, dh (by omega), this]; omega
theorem Sc (c : UInt8) (h : ¬ (97 ≤ (c.toNat : Int) ∧ (c.toNat : Int) ≤ 122)) : upB c = c := by
 rw [upB, bq (by omega)]
theorem fa_ (c : UInt8) (h1 : 97 ≤ (c.toNat : Int)) (h2 : (c.toNat : Int) ≤ 122) : UInt8.ofNat (c.toNat - 97) + 65 = upB c := by
 refine UInt8.toNat_inj.1 ?_;have := Yu c h1 h2;simp only [UInt8.toNat_add, UInt8.toNat_ofNat'];have e : (65 : UInt8).toNat = 65 := rfl;rw [e]; omega
theorem Nv (s o : ByteArray) (k : Nat) (hk : k < s.size) (d : UInt8) (hp : Hid (o.data.toList = upL (s.data.toList.take k))) (hd : d = upB s[k]) : Hid ((o ++ ⟨#[d]⟩).data.toList = upL (s.data.toList.take (k + 1))) := by
 show _ = _;rw [Nz, hp.out, vg s k hk, Nw, hd]
theorem Dq {o : ByteArray} {k : Nat} (d : UInt8) (h : o.size ≤ k) : (o ++ ⟨#[d]⟩).size ≤ k + 1 := by
 rw [ByteArray.size_append]; show o.size + 1 ≤ _; omega
set_option maxHeartbeats 1000000 in
theorem Sw (s : ByteArray) (hs : s.size ≤ maxLen) (w : World) :
  Calls prog 131 #[.string s] w fun e w' => e = .returned (.string ⟨(upL s.data.toList).toArray⟩) ∧ Below w.heap.size w w' := by
 unfold maxLen at hs;have kb := Ki (P := prog) 99 9 5 underlying99 underlying5 underlying9;go_enter func131, ntmps131;go_wp2_with fail;go_loopw [3, 4] (fun v i wr => ∃ (k : Nat) (o : ByteArray), k ≤ s.size ∧ o.size ≤ k ∧ i = .int .i64 k ∧ v = .string o ∧ Hid (o.data.toList = upL (s.data.toList.take k)) ∧ Below w.heap.size w wr) (fun _ i _ => s.size - (intOf i).toNat);case atStart => exact ⟨0, _, dw _, dw _, rfl, rfl, rfl, ae _ _⟩
 case round =>
  obtain ⟨k, o, hk, ho, rfl, rfl, hp, hb⟩ := hrel;by_cases hlt : k < s.size
  ·go_wp2_with fail
   ·refine ⟨⟨k + 1, _, by omega, Dq _ ho, by go_num, rfl, Nv s o k hlt _ hp (fa_ _ (by assumption) (by assumption)), hb.alloc hb.size _⟩, by simp [intOf]; omega⟩
   ·refine ⟨⟨k + 1, _, by omega, Dq _ ho, by go_num, rfl, Nv s o k hlt _ hp (Sc _ (by omega)).symm, hb.alloc hb.size _⟩, by simp [intOf]; omega⟩
   refine ⟨⟨k + 1, _, by omega, Dq _ ho, by go_num, rfl, Nv s o k hlt _ hp (Sc _ (by omega)).symm, hb.alloc hb.size _⟩, by simp [intOf]; omega⟩
  obtain rfl : k = s.size := by omega
  go_wp2_with fail;go_ret;rw [Bj] at hp;exact ⟨fc_ hp.out, hb⟩
theorem Ny (l : List UInt8) : (upL l).length = l.length := by simp [upL]
def upTo (l : List UInt8) (k : Nat) : List UInt8 := upL (l.take k) ++ l.drop k
theorem Em (l : List UInt8) (k : Nat) : (upTo l k).length = l.length := by simp [upTo, upL]; omega
theorem ez_ (s : ByteArray) (k : Nat) (h : k < s.size) : (upTo s.data.toList k).getD k 0 = s[k] := by
 rw [upTo, Cn s k h];simp [List.getD, upL, show min k s.size = k from by omega]
theorem Yt (s : ByteArray) (k : Nat) (h : k < s.size) (hn : upB s[k] = s[k]) : upTo s.data.toList (k + 1) = upTo s.data.toList k := by
 rw [upTo, upTo, vg s k h, Cn s k h, Nw, hn]; simp
theorem cj_ (s : ByteArray) (k : Nat) (h : k < s.size) : upTo s.data.toList (k + 1) = (upTo s.data.toList k).set k (upB s[k]) := by
 have hl : k < s.data.toList.length := h;rw [upTo, upTo, vg s k h, Cn s k h, Nw, t_ _ _ (by rw [Ny, bf]; omega)];rw [Ny, bf, Nat.min_eq_left (by omega)];simp
theorem ck_ (s : ByteArray) : upTo s.data.toList s.size = upL s.data.toList := by
 rw [upTo, Bj, Vm s (ax _), jy]
set_option maxHeartbeats 1000000 in
theorem Zr (s : ByteArray) (hs : s.size ≤ maxLen) (w : World) :
  Calls prog 117 #[.string s] w fun e w' => e = .returned (.string ⟨(upL s.data.toList).toArray⟩) ∧ Below w.heap.size w w' := by
 unfold maxLen at hs;have kc := fun (w : World) => Lib.run_convert_string_bytes (P := prog) w 9 99 5 s underlying9 underlying99 underlying5;go_enter func117, ntmps117;go_wp2_with fail;clear kc;go_loopw [10] (fun i wr => ∃ (k : Nat), k ≤ s.size ∧ i = .int .i64 k ∧ Av wr w.heap.size 5 (upTo s.data.toList k) ∧ Below w.heap.size w wr) (fun i _ => s.size - (intOf i).toNat);case atStart => exact ⟨0, dw _, rfl, Kv _ _ _, Px _ _ _⟩
 case round =>
  obtain ⟨k, hk, rfl, hr, hb⟩ := hrel;by_cases hlt : k < s.size
  ·have hc := hr.cell k (by rw [Em]; exact hlt);have hf := hr.free k (by rw [Em]; exact hlt);rw [ez_ s k hlt] at hc;go_wp2_with fail
   ·exact ⟨⟨k + 1, by omega, by go_num, by rw [cj_ s k hlt]; exact hr.set k (by rw [Em]; exact hlt) _ _ (by rw [Yu _ (by assumption) (by assumption)]), hb.setCell (ax _) _⟩, by simp [intOf]; omega⟩
   ·exact ⟨⟨k + 1, by omega, by go_num, by rw [Yt s k hlt (Sc _ (by omega))]; exact hr, hb⟩, by simp [intOf]; omega⟩
   exact ⟨⟨k + 1, by omega, by go_num, by rw [Yt s k hlt (Sc _ (by omega))]; exact hr, hb⟩, by simp [intOf]; omega⟩
  obtain rfl : k = s.size := by omega
  have kb := hr.back (P := prog) 99 9 s.size (grownCap w s.size 0 5) underlying99 underlying5 underlying9 (by rw [Em, zy]);rw [ck_] at kb;go_wp2_with fail;go_ret;exact ⟨rfl, hb⟩
end
section
open Go.RowKit
def De (c : UInt8) : UInt8 := if 65 ≤ c.toNat ∧ c.toNat ≤ 90 then c + 32 else c
def Bt (l : List UInt8) : List UInt8 := l.map De
theorem Lm (l : List UInt8) (c : UInt8) : Bt (l ++ [c]) = Bt l ++ [De c] := by simp [Bt]
theorem Uz (c : UInt8) (h1 : 65 ≤ (c.toNat : Int)) (h2 : (c.toNat : Int) ≤ 90) : ((De c).toNat : Int) = c.toNat + 32 := by
 rw [De, dh (by omega), UInt8.toNat_add];show (((c.toNat + 32) % 256 : Nat) : Int) = _;omega
theorem Nr (c : UInt8) (h : ¬ (65 ≤ (c.toNat : Int) ∧ (c.toNat : Int) ≤ 90)) : De c = c := by
 rw [De, bq (by omega)]
theorem dd_ (c : UInt8) (h1 : 65 ≤ (c.toNat : Int)) (h2 : (c.toNat : Int) ≤ 90) : UInt8.ofNat (c.toNat - 65) + 97 = De c := by
 refine UInt8.toNat_inj.1 ?_;have := Uz c h1 h2;simp only [UInt8.toNat_add, UInt8.toNat_ofNat'];have e : (97 : UInt8).toNat = 97 := rfl;rw [e]; omega
theorem Ll (s o : ByteArray) (k : Nat) (hk : k < s.size) (d : UInt8) (hp : Hid (o.data.toList = Bt (s.data.toList.take k))) (hd : d = De s[k]) : Hid ((o ++ ⟨#[d]⟩).data.toList = Bt (s.data.toList.take (k + 1))) := by
 show _ = _;rw [Nz, hp.out, vg s k hk, Lm, hd]
theorem Mx (l : List UInt8) : (Bt l).length = l.length := by simp [Bt]
def D_ (l : List UInt8) (k : Nat) : List UInt8 := Bt (l.take k) ++ l.drop k
theorem Dm (l : List UInt8) (k : Nat) : (D_ l k).length = l.length := by simp [D_, Bt]; omega
theorem db_ (s : ByteArray) (k : Nat) (h : k < s.size) : (D_ s.data.toList k).getD k 0 = s[k] := by
 rw [D_, Cn s k h];simp [List.getD, Bt, show min k s.size = k from by omega]
theorem Uy (s : ByteArray) (k : Nat) (h : k < s.size) (hn : De s[k] = s[k]) : D_ s.data.toList (k + 1) = D_ s.data.toList k := by
 rw [D_, D_, vg s k h, Cn s k h, Lm, hn]; simp
theorem an_ (s : ByteArray) (k : Nat) (h : k < s.size) : D_ s.data.toList (k + 1) = (D_ s.data.toList k).set k (De s[k]) := by
 have hl : k < s.data.toList.length := h;rw [D_, D_, vg s k h, Cn s k h, Lm, t_ _ _ (by rw [Mx, bf]; omega)];rw [Mx, bf, Nat.min_eq_left (by omega)];simp
theorem ao_ (s : ByteArray) : D_ s.data.toList s.size = Bt s.data.toList := by
 rw [D_, Bj, Vm s (ax _), jy]
set_option maxHeartbeats 1000000 in
theorem aa_ (s : ByteArray) (hs : s.size ≤ maxLen) (w : World) :
  Calls prog 150 #[.string s] w fun e w' => e = .returned (.string ⟨(Bt s.data.toList).toArray⟩) ∧ Below w.heap.size w w' := by
 unfold maxLen at hs;have kc := fun (w : World) => Lib.run_convert_string_bytes (P := prog) w 9 99 5 s underlying9 underlying99 underlying5;go_enter func150, ntmps150;go_wp2_with fail;clear kc;go_loopw [10] (fun i wr => ∃ (k : Nat), k ≤ s.size ∧ i = .int .i64 k ∧ Av wr w.heap.size 5 (D_ s.data.toList k) ∧ Below w.heap.size w wr) (fun i _ => s.size - (intOf i).toNat);case atStart => exact ⟨0, dw _, rfl, Kv _ _ _, Px _ _ _⟩
 case round =>
  obtain ⟨k, hk, rfl, hr, hb⟩ := hrel;by_cases hlt : k < s.size
  ·have hc := hr.cell k (by rw [Dm]; exact hlt);have hf := hr.free k (by rw [Dm]; exact hlt);rw [db_ s k hlt] at hc;go_wp2_with fail
   ·exact ⟨⟨k + 1, by omega, by go_num, by rw [an_ s k hlt]; exact hr.set k (by rw [Dm]; exact hlt) _ _ (by rw [Uz _ (by assumption) (by assumption)]), hb.setCell (ax _) _⟩, by simp [intOf]; omega⟩
   ·exact ⟨⟨k + 1, by omega, by go_num, by rw [Uy s k hlt (Nr _ (by omega))]; exact hr, hb⟩, by simp [intOf]; omega⟩
   exact ⟨⟨k + 1, by omega, by go_num, by rw [Uy s k hlt (Nr _ (by omega))]; exact hr, hb⟩, by simp [intOf]; omega⟩
  obtain rfl : k = s.size := by omega
  have kb := hr.back (P := prog) 99 9 s.size (grownCap w s.size 0 5) underlying99 underlying5 underlying9 (by rw [Dm, zy]);rw [ao_] at kb;go_wp2_with fail;go_ret;exact ⟨rfl, hb⟩
end
section
structure STO {α : Type} (lt : α → α → Bool) : Prop where
 irr : ∀ a, lt a a = false
 trans : ∀ a b c, lt a b = true → lt b c = true → lt a c = true
 tot : ∀ a b, a ≠ b → lt a b = true ∨ lt b a = true
def u_ {α : Type} (lt : α → α → Bool) (l : List α) : Prop := l.Pairwise fun a b => lt a b = true
theorem Hw {α : Type} {lt : α → α → Bool} (H : STO lt) : ∀ (l m : List α), u_ lt l → u_ lt m → (∀ x, x ∈ l ↔ x ∈ m) → l = m
 | [], [], _, _, _ => rfl
 | [], b :: m, _, _, h => by have := (h b).2 (by simp); simp at this
 | a :: l, [], _, _, h => by have := (h a).1 (by simp); simp at this
 | a :: l, b :: m, hl, hm, h => by
  obtain ⟨hl1, hl2⟩ := jg.1 hl;obtain ⟨hm1, hm2⟩ := jg.1 hm;have hab : a = b := by
   by_cases e : a = b
   ·exact e
   have h1 : a ∈ m := by
    rcases d_.1 ((h a).1 (by simp)) with h | h
    ·exact absurd h e
    exact h
   have h2 : b ∈ l := by
    rcases d_.1 ((h b).2 (by simp)) with h | h
    ·exact absurd h.symm e
    exact h
   have := H.trans _ _ _ (hl1 b h2) (hm1 a h1);rw [H.irr] at this; cases this
  subst hab;congr 1;refine Hw H l m hl2 hm2 fun x => ⟨fun hx => ?_, fun hx => ?_⟩
  ·rcases d_.1 ((h x).1 (by simp [hx])) with rfl | h
   ·have := hl1 x hx; rw [H.irr] at this; cases this
   exact h
  rcases d_.1 ((h x).2 (by simp [hx])) with rfl | h
  ·have := hm1 x hx; rw [H.irr] at this; cases this
  exact h
def uh {α : Type} (lt : α → α → Bool) (f : α) : List α → List α
 | [] => [f]
 | x :: r => if lt f x then f :: x :: r else x :: uh lt f r
def Cg {α : Type} [DecidableEq α] (lt : α → α → Bool) (l : List α) (f : α) : List α := if f ∈ l then l else uh lt f l
def Sq {α : Type} [DecidableEq α] (lt : α → α → Bool) (l : List α) : List α := l.foldl (Cg lt) []
theorem xw {α : Type} (lt : α → α → Bool) (f x : α) : ∀ l : List α, x ∈ uh lt f l ↔ x = f ∨ x ∈ l
 | [] => by simp [uh]
 | y :: r => by
  rw [uh];split
  ·simp
  rw [d_, xw lt f x r, d_];constructor
  ·rintro (h | h | h) <;> simp [h]
  rintro (h | h | h) <;> simp [h]
theorem al_ {α : Type} [DecidableEq α] (lt : α → α → Bool) (l : List α) (f x : α) : x ∈ Cg lt l f ↔ x = f ∨ x ∈ l := by
 rw [Cg];split
 ·rename_i h;constructor
  ·exact .inr
  rintro (rfl | h1)
  ·exact h
  exact h1
 exact xw lt f x l
theorem Mk {α : Type} {lt : α → α → Bool} (H : STO lt) (f : α) : ∀ l : List α, u_ lt l → f ∉ l → u_ lt (uh lt f l)
 | [], _, _ => uq _ _
 | y :: r, h, hn => by
  obtain ⟨h1, h2⟩ := jg.1 h;rw [uh];split
  ·rename_i hf;refine jg.2 ⟨fun z hz => ?_, h⟩;rcases d_.1 hz with rfl | hz
   ·exact hf
   exact H.trans _ _ _ hf (h1 z hz)
  rename_i hf;refine jg.2 ⟨fun z hz => ?_, Mk H f r h2 (fun h => hn (by simp [h]))⟩;rcases (xw lt f z r).1 hz with rfl | hz
  ·rcases H.tot z y (fun e => hn (by simp [e])) with h | h
   ·exact absurd h hf
   exact h
  exact h1 z hz
theorem Si {α : Type} [DecidableEq α] {lt : α → α → Bool} (H : STO lt) (l : List α) (f : α) (h : u_ lt l) : u_ lt (Cg lt l f) := by
 rw [Cg];split
 ·exact h
 rename_i hn;exact Mk H f l h hn
theorem Ic {α : Type} [DecidableEq α] {lt : α → α → Bool} (H : STO lt) : ∀ (l m : List α), u_ lt m → u_ lt (l.foldl (Cg lt) m) ∧ ∀ x, x ∈ l.foldl (Cg lt) m ↔ x ∈ m ∨ x ∈ l
 | [], m, h => ⟨h, fun x => by simp⟩
 | y :: r, m, h => by
  have ih := Ic H r (Cg lt m y) (Si H m y h);refine ⟨ih.1, fun x => ?_⟩;rw [List.foldl_cons, ih.2, al_, d_];constructor
  ·rintro ((h | h) | h) <;> simp [h]
  rintro (h | h | h) <;> simp [h]
theorem En {α : Type} [DecidableEq α] {lt : α → α → Bool} (H : STO lt) (l : List α) : u_ lt (Sq lt l) := (Ic H l [] tq).1
theorem Oy {α : Type} [DecidableEq α] {lt : α → α → Bool} (H : STO lt) (l : List α) (x : α) : x ∈ Sq lt l ↔ x ∈ l := by
 rw [Sq, (Ic H l [] tq).2]; simp
theorem Dy {α : Type} [DecidableEq α] {lt : α → α → Bool} (H : STO lt) (l : List α) (h : u_ lt l) : Sq lt l = l := Hw H _ _ (En H l) h (Oy H l)
theorem Km {α : Type} (lt : α → α → Bool) (f : α) : ∀ l : List α, (uh lt f l).length = l.length + 1
 | [] => rfl
 | x :: r => by
  rw [uh];split
  ·simp
  simp [Km lt f r]
theorem Gv {α : Type} [DecidableEq α] (lt : α → α → Bool) : ∀ (l m : List α), (l.foldl (Cg lt) m).length ≤ m.length + l.length
 | [], m => by simp
 | y :: r, m => by
  have h1 : (Cg lt m y).length ≤ m.length + 1 := by
   rw [Cg];split
   ·omega
   rw [Km]; exact ax _
  have := Gv lt r (Cg lt m y);rw [List.foldl_cons, qc]; omega
theorem yn {α : Type} [DecidableEq α] (lt : α → α → Bool) (l : List α) : (Sq lt l).length ≤ l.length := by
 have := Gv lt l [];simpa [Sq] using this
theorem Na {α : Type} [DecidableEq α] [Inhabited α] {lt : α → α → Bool} (H : STO lt) (d : Array α) (hd : ∀ i j, i < j → j < d.size → lt d[j]! d[i]! = false) :
  ∀ m, m ≤ d.size → u_ lt (Lib.compactUpTo d m) ∧ (∀ x, x ∈ Lib.compactUpTo d m ↔ ∃ j, j < m ∧ d[j]! = x)
 | 0, _ => ⟨by simp [Lib.compactUpTo, u_], fun x => by simp [Lib.compactUpTo]⟩
 | m + 1, hm => by
  obtain ⟨h1, h2⟩ := Na H d hd m (by omega);rw [Lib.compactUpTo_succ];cases hk : Lib.keeps d m
  ·simp only [Bool.false_eq_true, if_false, jy];refine ⟨h1, fun x => ?_⟩;rw [h2];have hm0 : m ≠ 0 ∧ d[m]! = d[m - 1]! := by
    rw [Lib.keeps] at hk;have := f_ hk;constructor
    ·intro e; exact this (.inl e)
    by_cases e : d[m]! = d[m - 1]!
    ·exact e
    exact absurd (.inr e) this
   constructor
   ·rintro ⟨j, hj, rfl⟩; exact ⟨j, by omega, rfl⟩
   rintro ⟨j, hj, rfl⟩;rcases oo j m with h | h
   ·exact ⟨j, h, rfl⟩
   obtain rfl : j = m := (by omega);exact ⟨j - 1, by omega, hm0.2.symm⟩
  simp only [if_true];have hlt : ∀ j, j < m → lt d[j]! d[m]! = true := by
   intro j hj;have hk' : m = 0 ∨ d[m]! ≠ d[m - 1]! := dm hk;rcases hk' with hk' | hk'
   ·omega
   have hprev : lt d[m - 1]! d[m]! = true := by
    rcases H.tot d[m - 1]! d[m]! (fun e => hk' e.symm) with h | h
    ·exact h
    rw [hd (m - 1) m (by omega) (by omega)] at h; cases h
   rcases oo j (m - 1) with h | h
   ·by_cases e : d[j]! = d[m - 1]!
    ·rw [e]; exact hprev
    rcases H.tot _ _ e with h3 | h3
    ·exact H.trans _ _ _ h3 hprev
    rw [hd j (m - 1) h (by omega)] at h3; cases h3
   obtain rfl : j = m - 1 := (by omega);exact hprev
  refine ⟨j3.2 ⟨h1, uq _ _, fun a ha b hb => ?_⟩, fun x => ?_⟩
  ·obtain ⟨j, hj, rfl⟩ := (h2 a).1 ha;have : b = d[m]! := (by simpa using hb);subst this;exact hlt j hj
  rw [fe, h2];constructor
  ·rintro (⟨j, hj, rfl⟩ | h)
   ·exact ⟨j, by omega, rfl⟩
   have : x = d[m]! := (by simpa using h);exact ⟨m, by omega, this.symm⟩
  rintro ⟨j, hj, rfl⟩;rcases oo j m with h | h
  ·exact .inl ⟨j, h, rfl⟩
  obtain rfl : j = m := by omega
  exact .inr (by simp)
theorem Be {α : Type} [Inhabited α] (l : List α) (j : Nat) : l.toArray[j]! = l[j]! := by simp
theorem Tp {α : Type} [DecidableEq α] [Inhabited α] {lt : α → α → Bool} (H : STO lt) (l m : List α) (hm : ∀ i j, i < j → j < m.length → lt m[j]! m[i]! = false) (hp : ∀ x, x ∈ m ↔ x ∈ l) : Lib.compactUpTo m.toArray m.length = Sq lt l := by
 obtain ⟨h1, h2⟩ := Na H m.toArray (fun i j hij hj => by rw [Be, Be]; exact hm i j hij (by simpa using hj)) m.length (by simp);refine Hw H _ _ h1 (En H l) fun x => ?_;rw [h2, Oy H, ← hp];constructor
 ·rintro ⟨j, hj, rfl⟩;rw [Be, getElem!_pos m j hj];exact bg hj
 intro hx;obtain ⟨j, hj, e⟩ := List.getElem_of_mem hx;exact ⟨j, hj, by rw [Be, getElem!_pos m j hj]; exact e⟩
theorem Yh : ∀ a b : List UInt8, decide (Lib.compareBytes a b < 0) = bytesBefore a b
 | [], [] => rfl
 | [], _ :: _ => rfl
 | _ :: _, [] => rfl
 | a :: x, b :: y => by
  rw [Lib.compareBytes, bytesBefore];by_cases h1 : a < b
  ·simp [h1]
  by_cases h2 : b < a
  ·have h3 : ¬ a = b := fun e => (by subst e; exact h1 h2);simp [h1, h2, h3]
  have h3 : a = b := by
   have := UInt8.not_lt.1 h1;have := UInt8.not_lt.1 h2;exact UInt8.le_antisymm ‹_› ‹_›
  subst h3;simp [h1, Yh x y]
theorem qm : STO (α := List UInt8) bytesBefore := ⟨WideAt.bytes_irrefl, fun a b c => WideShapes.bytes_trans a b c, fun a b => WideAt.bytes_total a b⟩
end
section
open Go.RowKit
def xe : List (List UInt8) := [[92, 65, 110, 115, 119, 101, 114, 101, 100], [92, 70, 108, 97, 103, 103, 101, 100], [92, 68, 101, 108, 101, 116, 101, 100], [92, 83, 101, 101, 110], [92, 68, 114, 97, 102, 116]]
def I_ (l : List UInt8) : Bool := Eg v_ l && decide (l.length ≤ 32)
def qp (s : List UInt8) : Option (List UInt8) := match xe.find? (fun f => upL f == upL s) with
 | some f => some f
 | none => if I_ s then some (Bt s) else none
def p8 (f : List UInt8) : Nat := xe.idxOf f
def Jr (a b : List UInt8) : Int := if p8 a = p8 b then Lib.compareBytes a b else (p8 a : Int) - p8 b
def flt (a b : List UInt8) : Bool := decide (Jr a b < 0)
theorem Pk (a b : List UInt8) : flt a b = if p8 a = p8 b then bytesBefore a b else decide (p8 a < p8 b) := by
 rw [flt, Jr];split
 ·exact Yh a b
 rw [decide_eq_decide]; omega
theorem uz : STO flt := by
 refine ⟨fun a => by rw [Pk, dh rfl]; exact qm.irr a, fun a b c h1 h2 => ?_, fun a b h => ?_⟩
 ·rw [Pk] at h1 h2 ⊢;by_cases e1 : p8 a = p8 b
  ·rw [dh e1] at h1;by_cases e2 : p8 b = p8 c
   ·rw [dh e2] at h2;rw [dh (e1.trans e2)];exact qm.trans _ _ _ h1 h2
   rw [bq e2] at h2;rw [bq (by omega)];rw [e1]; exact h2
  rw [bq e1] at h1;by_cases e2 : p8 b = p8 c
  ·rw [dh e2] at h2;rw [bq (by omega), ← e2]; exact h1
  rw [bq e2] at h2;simp only [decide_eq_true_eq] at h1 h2;rw [bq (by omega)];simp only [decide_eq_true_eq]; omega
 rw [Pk, Pk];by_cases e1 : p8 a = p8 b
 ·rw [dh e1, dh e1.symm];exact qm.tot a b h
 rw [bq e1, bq (fun e => e1 e.symm)];simp only [decide_eq_true_eq]; omega
def ni (l : List (List UInt8)) : List (List UInt8) := Sq flt l
theorem Fj (f : List UInt8) : p8 f ≤ 5 := List.idxOf_le_length
theorem Ie (u v : ByteArray) : (u.toList == v.toList) = (u.data.toList == v.data.toList) := by rw [ib, ib]
def Lays (w : World) (w' : World) : Prop := ∃ os : Array Obj, w' = Sort.grow w os
theorem Lays.below {w w' : World} (h : Lays w w') : Below w.heap.size w w' := by
 obtain ⟨os, rfl⟩ := h;exact ⟨rfl, rfl, rfl, by simp [Sort.grow], fun k hk => by simp [Sort.grow, Array.getElem?_append, hk]⟩
theorem Lays.alloc (w : World) (o : Obj) : Lays w (w.alloc o) := ⟨#[o], Sort.alloc_eq_grow w o⟩
theorem Lays.trans {a b c : World} (h : Lays a b) (k : Lays b c) : Lays a c := by
 obtain ⟨o1, rfl⟩ := h;obtain ⟨o2, rfl⟩ := k;exact ⟨o1 ++ o2, Sort.grow_grow _ _ _⟩
theorem Lays.refl (w : World) : Lays w w := ⟨#[], (Sort.grow_empty w).symm⟩
def Ob : Value := .agg #[.string ⟨#[92, 65, 110, 115, 119, 101, 114, 101, 100]⟩, .string ⟨#[92, 70, 108, 97, 103, 103, 101, 100]⟩, .string ⟨#[92, 68, 101, 108, 101, 116, 101, 100]⟩, .string ⟨#[92, 83, 101, 101, 110]⟩, .string ⟨#[92, 68, 114, 97, 102, 116]⟩]
set_option maxHeartbeats 400000 in
theorem Oa (w : World) : Calls prog 148 #[] w fun e w' => e = .returned Ob ∧ Lays w w' := by
 go_enter func148, ntmps148;go_wp2_with fail;refine bodyPost_ret (v := Ob) ?_ rfl ⟨rfl, .alloc _ _⟩;unfold results;rw [show f148.results = #[.cell 0 163] from rfl];simp [asAddr];go_simp;rfl
def mkB (l : List UInt8) : ByteArray := ⟨l.toArray⟩
theorem vz (l : List UInt8) : (mkB l).data.toList = l := rfl
theorem fq_ {a b : List UInt8} (h : mkB a = mkB b) : a = b := by
 have := jk (fun s : ByteArray => s.data.toList) h;simpa [mkB] using this
theorem Jg : ∀ (l : List (List UInt8)) (x : List UInt8) (i : Nat), Lib.idxFromS (l.map mkB) (mkB x) i = if x ∈ l then ((i + l.idxOf x : Nat) : Int) else -1
 | [], x, i => by simp [Lib.idxFromS]
 | z :: r, x, i => by
  rw [yx, Lib.idxFromS];by_cases h : z = x
  ·subst h;simp
  rw [bq (fun e => h (fq_ e)), Jg r x (i + 1)];by_cases hx : x ∈ r
  ·have e : (z :: r).idxOf x = r.idxOf x + 1 := (by rw [List.idxOf_cons, show (z == x) = false from by simpa using h]; rfl);rw [dh hx, dh (jh _ hx), e];omega
  rw [bq hx, bq (fun e => by rcases d_.1 e with e | e; exact h e.symm; exact hx e)]
set_option maxHeartbeats 400000 in
theorem Rf (x : List UInt8) (w : World) : Calls prog 178 #[encStr x] w fun e w' => e = .returned (.int .i64 (p8 x)) ∧ Lays w w' := by
 go_enter func178, ntmps178;go_wp2_with fail;refine (Oa w).mono ?_;rintro e w1 ⟨rfl, l1⟩;unfold Ob;go_wp2_with fail;have hi := slices_Index_string w1.heap.size 0 5 5 (xe.map mkB) (mkB x) (w1.alloc (.cells #[.string ⟨#[92, 65, 110, 115, 119, 101, 114, 101, 100]⟩, .string ⟨#[92, 70, 108, 97, 103, 103, 101, 100]⟩, .string ⟨#[92, 68, 101, 108, 101, 116, 101, 100]⟩, .string ⟨#[92, 83, 101, 101, 110]⟩, .string ⟨#[92, 68, 114, 97, 102, 116]⟩] 163)) (by decide) (by decide) (fun j hj => by
  have hj5 : j < 5 := hj;match j, hj5 with
  | 0, _ => simp [xe, mkB, List.getD]
  | 1, _ => simp [xe, mkB, List.getD]
  | 2, _ => simp [xe, mkB, List.getD]
  | 3, _ => simp [xe, mkB, List.getD]
  | 4, _ => simp [xe, mkB, List.getD])
 rw [show (xe.map mkB).take 5 = xe.map mkB from rfl, Lib.idxOfS, Jg] at hi;have hle := Fj x;by_cases hm : x ∈ xe
 ·rw [dh hm, di] at hi;replace hi : Calls prog 160 #[.slice (some ⟨w1.heap.size, 0, none⟩) 5 5, encStr x] _ (fun e w' => e = .returned (.int .i64 ((p8 x : Nat) : Int)) ∧ w' = _) := hi;refine hi.mono ?_;rintro e w2 ⟨rfl, rfl⟩;clear hi;go_wp2_with fail;go_ret;exact ⟨rfl, l1.trans (Lays.alloc _ _)⟩
 have h5 : p8 x = 5 := List.idxOf_eq_length hm;rw [bq hm] at hi;refine hi.mono ?_;rintro e w2 ⟨rfl, rfl⟩;replace h5 := hi_ h5;clear hi;go_wp2_with fail;go_ret;exact ⟨by rw [h5.out]; rfl, l1.trans (Lays.alloc _ _)⟩
set_option maxHeartbeats 400000 in
theorem ca_ (x y : List UInt8) (w : World) : Calls prog 152 #[encStr x, encStr y] w fun e w' => e = .returned (.int .i64 (Jr x y)) ∧ Lays w w' := by
 have hx := Fj x;have hy := Fj y;go_enter func152, ntmps152;go_wp2_with fail;refine (Rf x w).mono ?_;rintro e w1 ⟨rfl, l1⟩;go_wp2_with fail;refine (Rf y w1).mono ?_;rintro e w2 ⟨rfl, l2⟩;have l12 := hi_ (l1.trans l2);clear l1 l2;by_cases h : p8 x = p8 y
 ·have hf : Jr x y = Lib.compareBytes x y := by rw [Jr, dh h]
  replace hf := hi_ hf;rw [h];clear h;go_wp2_with fail;refine (strings_Compare (mkB x) (mkB y) w2).mono ?_;rintro e w3 ⟨rfl, rfl⟩;go_wp2_with fail;go_ret;exact ⟨by rw [hf.out]; rfl, l12.out⟩
 have hf : Jr x y = (p8 x : Int) - p8 y := by rw [Jr, bq h]
 have hne : ((p8 x : Int) != (p8 y : Int)) = true := by
  rw [bne_iff_ne]; omega
 replace hf := hi_ hf;clear h;go_wp2_with fail;go_ret;exact ⟨by rw [hf.out]; rfl, l12.out⟩
end
section
open Go.RowKit Go.Lib Go.Sort
def za (B : Nat) (w : World) (v : Value) (l : List (List UInt8)) : Prop := ∃ ao cap, v = .slice ao l.length cap ∧ (l = [] ∨ ∃ g, ao = some ⟨g, 0, none⟩ ∧ B ≤ g ∧ g < w.heap.size ∧ l.length ≤ cap ∧ Holds encStr w g 0 l.toArray)
theorem za.rd {B : Nat} {w : World} {v : Value} {l : List (List UInt8)} (h : za B w v l) : Rd w v l.length (l.map encStr) := by
  obtain ⟨ao, cap, rfl, rfl | ⟨g, rfl, hB, hg, hc, hh⟩⟩ := h
  · exact ⟨ao, cap, rfl, .inl rfl⟩
  · refine ⟨_, cap, rfl, .inr ⟨g, 0, rfl, hg, hc, fun i u hu => ?_⟩⟩
    have hi : i < l.length := by
      have := (jl.1 hu).1
      simpa using this
    have := (hh i (by simpa using hi)).1
    rw [this]
    rw [ji, ay hi] at hu
    rw [Be, getElem!_pos l i hi]
    exact hu
theorem Tq {w : World} {blk off k : Nat} (d : Array (List UInt8)) (h : k ≠ blk) : (putRow encStr w blk off d).heap[k]? = w.heap[k]? := by
  unfold putRow mapBlock
  simp [Gc, Ne.symm h]
theorem below_putRow {B : Nat} {w0 w : World} (h : Below B w0 w) (n blk off : Nat) (d : Array (List UInt8)) (hb : B ≤ blk) : Below B w0 (putRow encStr (Sort.ahead w n) blk off d) :=
  ⟨h.os, h.tape, h.output, by rw [size_putRow]; exact h.size, fun k hk => (Tq d (by omega)).trans (h.block k hk)⟩
theorem Gz {B : Nat} {w0 w : World} (h : Below B w0 w) (n blk off : Nat) (d : Array (List UInt8)) (os : Array Obj) (hb : B ≤ blk) (hw : B ≤ w0.heap.size) : Below B w0 (sortWorld encStr w blk off n d os) := by
  have h1 := below_putRow h n blk off d hb
  have h2 : Lays (putRow encStr (Sort.ahead w n) blk off d) (sortWorld encStr w blk off n d os) := ⟨os, rfl⟩
  exact h1.trans (h2.below.mono (ed hw h1.size))
theorem Pj {w : World} {g : Nat} {a b : List (List UInt8)} (h : Holds encStr w g 0 (a ++ b).toArray) : Holds encStr w g 0 a.toArray := fun j hj => by
  have hj' : j < a.length := by simpa using hj
  have h1 := h j (by simp; omega)
  rw [Be, getElem!_pos (a ++ b) j (by simp; omega), List.getElem_append_left hj'] at h1
  rw [Be, getElem!_pos a j hj']
  exact h1
theorem Ov : OneCell encStr := fun _ => rfl
theorem Tk : ltOf Jr = flt := rfl
theorem Zh : SWO (ltOf Jr) := by
  rw [Tk]
  refine ⟨uz.irr, uz.trans, fun x y z h1 h2 => ?_⟩
  by_cases e : x = z
  · subst e; exact uz.irr x
  · by_cases e1 : x = y
    · subst e1; exact h2
    · by_cases e2 : y = z
      · subst e2; exact h1
      · have h3 : flt y x = true := by
          rcases uz.tot x y e1 with h | h
          · rw [h1] at h; cases h
          · exact h
        have h4 : flt z y = true := by
          rcases uz.tot y z e2 with h | h
          · rw [h2] at h; cases h
          · exact h
        have h5 := uz.trans _ _ _ h4 h3
        cases h6 : flt x z
        · rfl
        · have := uz.trans _ _ _ h6 h5
          rw [uz.irr] at this; cases this
theorem fu_ (x y : List UInt8) (h1 : ltOf Jr x y = false) (h2 : ltOf Jr y x = false) : x = y := by
  rw [Tk] at h1 h2
  by_cases e : x = y
  · exact e
  · rcases uz.tot x y e with h | h
    · rw [h1] at h; cases h
    · rw [h2] at h; cases h
theorem dx_ (blk off size : Nat) (w : World) : CmpLays1 prog 152 #[] encStr Jr blk off size w := fun m os dk _ x y => by
  refine (ca_ x y _).mono fun e w' ⟨he, os', hw⟩ => ⟨he, 0, os', ?_⟩
  rw [hw]; rfl
def Eo (l : List (List UInt8)) : List (List UInt8) := l.mergeSort fun x y => !(ltOf Jr) y x
theorem Ff (l : List (List UInt8)) : (Eo l).length = l.length := List.length_mergeSort _
theorem Zz (l : List (List UInt8)) (x : List UInt8) : x ∈ Eo l ↔ x ∈ l := List.mem_mergeSort
theorem Sj (l : List (List UInt8)) : ∀ i j, i < j → j < (Eo l).length → flt (Eo l)[j]! (Eo l)[i]! = false := by
  have hp : (Eo l).Pairwise fun a b => (!(ltOf Jr) b a) = true := List.pairwise_mergeSort (fun a b c h1 h2 => by
    simp only [Bool.not_eq_true'] at h1 h2 ⊢
    exact Zh.ntrans _ _ _ h2 h1) (fun a b => by
    rw [Tk]
    cases h1 : flt b a
    · rfl
    · cases h2 : flt a b
      · rfl
      · have := uz.trans _ _ _ h1 h2
        rw [uz.irr] at this; cases this) l
  intro i j hij hj
  have := gm.1 hp i j (by omega) hj hij
  rw [getElem!_pos _ j hj, getElem!_pos _ i (by omega)]
  simpa [Tk] using this
theorem Qw (l : List (List UInt8)) : compactUpTo (Eo l).toArray (Eo l).toArray.size = ni l := Tp uz l (Eo l) (Sj l) (Zz l)
def eo_ (l : List (List UInt8)) (w : World) (e : Ending) (w' : World) : Prop := ∃ v', e = .returned v' ∧ Hid (za w.heap.size w' v' (ni l)) ∧ Hid (Below w.heap.size w w')
set_option maxHeartbeats 1000000 in
theorem Np (v : Value) (l : List (List UInt8)) (w : World) (hr : Rd w v l.length (l.map encStr)) (hl : l.length * 16 ≤ 140737488355328) :
    Calls prog 122 #[v] w (eo_ l w) := by
  have eg : ∀ args w, (callFunc 152 args).run prog w = .ok (.enter 152 args) w := enters_of func152 (by kernel_rfl) rfl
  obtain ⟨ao, cap, rfl, h0⟩ := hr
  have hempty : l = [] → Calls prog 122 #[.slice ao l.length cap] w (eo_ l w) := by
    rintro rfl
    have hc : Calls prog 88 #[.slice ao 0 cap] w fun e w' => ∃ ao' cap', e = .returned (.slice ao' 0 cap') ∧ Below w.heap.size w w' := by
      cases ao with
      | none => exact (slices_Clone_string_nil 0 cap w).mono fun _ _ ⟨he, hw⟩ => ⟨none, 0, he, by rw [hw]; exact ae _ _⟩
      | some a => exact (slices_Clone_string_zero a cap w).mono fun _ _ ⟨v', he, ho, _, hb⟩ => by
                    rcases ho.2 with ⟨rfl, _⟩ | ⟨g, cap', cur, rfl, _⟩
                    · exact ⟨none, 0, he, hb⟩
                    · exact ⟨_, cap', he, hb⟩
    replace hc := hi_ hc
    go_enter func122, ntmps122
    go_wp2_with fail
    refine hc.out.mono ?_
    rintro e w1 ⟨ao', cap', rfl, b1⟩
    go_wp2_with fail
    refine (slices_SortFunc_none (α := List UInt8) ao' cap' (.func (.func 152) #[] #[]) w1).mono ?_
    rintro e w2 ⟨rfl, rfl⟩
    go_wp2_with fail
    refine (slices_Compact_string_empty ao' cap' _).mono ?_
    rintro e w3 ⟨rfl, rfl⟩
    go_wp2_with fail
    go_ret
    exact ⟨_, rfl, hi_ ⟨ao', cap', rfl, .inl rfl⟩, hi_ b1⟩
  rcases h0 with h0 | ⟨b, o, rfl, hb, _, hcell⟩
  · exact hempty (eu h0)
  · by_cases hl0 : l = []
    · exact hempty hl0
    · clear hempty
      have hpos : 0 < l.length := by
        rcases n_ l.length with h | h
        · exact absurd (eu h) hl0
        · exact h
      have hc := slices_Clone_string b o l.length cap (l.map mkB) w (by simp) hl (fun j hj => by
        have hj' : j < l.length := by simpa using hj
        rw [hcell j (encStr l[j]) (by simp [hj'])]
        simp [List.getD, hj', mkB, encStr])
      rw [show ((l.map mkB).take l.length).map Value.string = l.map encStr by
        rw [jr (by simp), List.map_map]; rfl] at hc
      replace hc := hi_ hc
      clear hcell
      go_enter func122, ntmps122
      go_wp2_with fail
      refine hc.out.mono ?_
      rintro e w1 ⟨v1, rfl, ho, hnn, b1⟩
      obtain ⟨g, cap1, rfl, hg, hgl, hcap, hH⟩ : ∃ g cap1, v1 = .slice (some ⟨g, 0, none⟩) l.length cap1 ∧ w.heap.size ≤ g ∧ g < w1.heap.size ∧ l.length ≤ cap1 ∧ Holds encStr w1 g 0 l.toArray := by
        have hcs := fun g' h => World.ownsRow.cells ho (g := g') h
        rcases ho.2 with ⟨rfl, _⟩ | ⟨g, cap1, cur, rfl, hg, hcells, hcp, _⟩
        · exact absurd rfl hnn
        · refine ⟨g, cap1, rfl, hg, (bv.1 hcells).1, hcp, fun j hj => ?_⟩
          have hj' : j < l.length := by simpa using hj
          refine ⟨?_, by simp only [World.frozen?, hcells]; simp⟩
          have := hcs g rfl j (encStr l[j]) (by simp [hj'])
          rw [Be, getElem!_pos l j hj']
          simpa [zx] using this
      clear hnn ho
      have hsort := slices_SortFunc_total encStr Ov Jr Zh 152 #[] g 0 cap1 l.toArray w1 eg (dx_ _ _ _ _) hH hgl (by simp; omega) fu_
      replace hsort := hi_ hsort
      replace hH := hi_ hH
      go_wp2_with fail
      refine hsort.out.mono ?_
      rintro e w2 ⟨rfl, n, os, hw2⟩
      have hH2 : Holds encStr w2 g 0 (Eo l).toArray := by
        rw [hw2]
        exact holds_sortWorld encStr w1 g 0 n l.toArray (Eo l).toArray os hgl hH.out (by simp [Ff])
      have hgl2 : g < w2.heap.size := by rw [hw2]; exact lt_sortWorld encStr w1 g 0 n _ os hgl
      have b2 : Below w.heap.size w w2 := by rw [hw2]; exact Gz b1 n g 0 _ os hg (ax _)
      have hcomp := slices_Compact_string_arr g 0 cap1 (Eo l).toArray w2 hH2 (by simp [Ff]; omega) (by simp [Ff]; exact hcap)
      rw [Qw] at hcomp
      rw [show (Eo l).toArray.size = l.length by simp [Ff]] at hcomp
      replace hcomp := hi_ hcomp
      replace b2 := hi_ b2
      replace hH2 := hi_ hH2
      clear hw2 hsort hH b1
      go_wp2_with fail
      refine hcomp.out.mono ?_
      rintro e w3 ⟨rfl, q, hw3⟩
      have hfl : (ni l).length ≤ l.length := yn flt l
      have hH3 : Holds encStr w3 g 0 (ni l).toArray := by
        rw [hw3]
        refine Pj (b := List.replicate (l.length - (ni l).length) []) ?_
        exact holds_putRow encStr _ g 0 (Eo l).toArray _ hH2.out (by simp [Ff]; omega)
      have hgl3 : g < w3.heap.size := by rw [hw3, size_putRow]; exact hgl2
      have b3 : Below w.heap.size w w3 := by rw [hw3]; exact below_putRow b2.out q g 0 _ hg
      replace b3 := hi_ b3
      replace hH3 := hi_ hH3
      clear hw3
      go_wp2_with fail
      go_ret
      exact ⟨_, rfl, hi_ ⟨_, cap1, rfl, .inr ⟨g, rfl, hg, hgl3, by omega, hH3.out⟩⟩, b3⟩
end
section
open Go.RowKit
def er_ (l : List UInt8) (w : World) (e : Ending) (w' : World) : Prop := ∃ u : ByteArray, e = .returned (.string u) ∧ Hid (u.data.toList = l) ∧ Below w.heap.size w w'
theorem vv (s : ByteArray) (hs : s.size ≤ maxLen) (w : World) : Calls prog 117 #[.string s] w (er_ (upL s.data.toList) w) :=
 (Zr s hs w).mono fun _ _ ⟨he, hb⟩ => ⟨_, he, rfl, hb⟩
theorem Ew (s : ByteArray) (hs : s.size ≤ maxLen) (w : World) : Calls prog 131 #[.string s] w (er_ (upL s.data.toList) w) :=
 (Sw s hs w).mono fun _ _ ⟨he, hb⟩ => ⟨_, he, rfl, hb⟩
def Kz (s : List UInt8) (w : World) (e : Ending) (w' : World) : Prop := ∃ (u : ByteArray) (ok : Bool), e = .returned (.tuple #[.string u, .bool ok]) ∧ Hid (qp s = (if ok then some u.data.toList else none) ∧ (ok = false → u = ⟨#[]⟩)) ∧ Hid (Below w.heap.size w w')
theorem Bg {s : List UInt8} {w w' : World} {u : ByteArray} (h : qp s = some u.data.toList) (hb : Below w.heap.size w w') : Kz s w (.returned (.tuple #[.string u, .bool true])) w' := ⟨u, true, rfl, hi_ ⟨h, fun h => by cases h⟩, hi_ hb⟩
theorem Ku {s : List UInt8} {w w' : World} (h : qp s = none) (hb : Below w.heap.size w w') : Kz s w (.returned (.tuple #[.string ⟨#[]⟩, .bool false])) w' := ⟨⟨#[]⟩, false, rfl, hi_ ⟨h, fun _ => rfl⟩, hi_ hb⟩
def zn (s : List UInt8) (j : Nat) : Bool := upL (xe.getD j []) == upL s
theorem Dr (s : List UInt8) (k : Nat) (hk : k < 5) (h1 : ∀ j, j < k → zn s j = false) (h2 : zn s k = true) : qp s = some (xe.getD k []) := by
 have hf : xe.find? (fun f => upL f == upL s) = some (xe.getD k []) := by
  have e : ∀ (l : List (List UInt8)) (k : Nat), k < l.length → (∀ j, j < k → (upL (l.getD j []) == upL s) = false) → (upL (l.getD k []) == upL s) = true → l.find? (fun f => upL f == upL s) = some (l.getD k []) := by
   intro l;induction l with
   | nil => intro k hk; simp at hk
   | cons x r ih =>
    intro k hk h1 h2;match k, hk, h1, h2 with
    | 0, _, _, h2 => rw [List.find?_cons, show (upL x == upL s) = true from h2]; rfl
    | k + 1, hk, h1, h2 =>
     rw [List.find?_cons, show (upL x == upL s) = false from h1 0 (by omega)];exact ih k (by simpa using hk) (fun j hj => h1 (j + 1) (by omega)) h2
  exact e xe k hk h1 h2
 rw [qp, hf]
theorem Rp (s : List UInt8) (h1 : ∀ j, j < 5 → zn s j = false) : qp s = if I_ s then some (Bt s) else none := by
 have hf : xe.find? (fun f => upL f == upL s) = none := by
  rw [uk];intro x hx;obtain ⟨j, hj, rfl⟩ := List.getElem_of_mem hx;have := h1 j hj;rw [zn, List.getD, ay hj] at this;simpa using this
 rw [qp, hf]
theorem Ec {u v : ByteArray} {l m : List UInt8} (hu : Hid (u.data.toList = l)) (hv : Hid (v.data.toList = m)) : (u.toList == v.toList) = (l == m) := by rw [Ie, hu.out, hv.out]
theorem Ak (k : Nat) (hk : k < 5) (w : World) : (Instr.index 163 Ob (.int .i64 k)).run prog w = .ok (.string (mkB (xe.getD k []))) w := by
 have hu : ∀ w, (underlying 163).run prog w = .ok (.array 5 9) w := run_underlying underlying163;have hz : ∀ w, (Go.sizeOf 9).run prog w = .ok 1 w := sizeOf9;have ha : ∀ w, (isAgg 9).run prog w = .ok false w := isAgg9;unfold Instr.index Ob;match k, hk with
 | 0, _ => simp [asIntOf, hu, hz, part, ha, xe, mkB]
 | 1, _ => simp [asIntOf, hu, hz, part, ha, xe, mkB]
 | 2, _ => simp [asIntOf, hu, hz, part, ha, xe, mkB]
 | 3, _ => simp [asIntOf, hu, hz, part, ha, xe, mkB]
 | 4, _ => simp [asIntOf, hu, hz, part, ha, xe, mkB]
theorem Ld (k : Nat) (hk : k < 5) : (mkB (xe.getD k [])).size ≤ maxLen := by
 have h : (mkB (xe.getD k [])).size ≤ 9 := by
  match k, hk with
  | 0, _ => exact Ca rfl
  | 1, _ => exact Ca rfl
  | 2, _ => exact Ca rfl
  | 3, _ => exact Ca rfl
  | 4, _ => exact Ca rfl
 unfold maxLen; omega
set_option maxRecDepth 100000 in
set_option maxHeartbeats 2000000 in
theorem bq_ (s : ByteArray) (hs0 : s.size ≤ maxLen) (w : World) : Calls prog 121 #[.string s] w (Kz s.data.toList w) := by
 have hs9 := hi_ hs0;clear hs0;go_enter func121, ntmps121;go_wp2_with fail;refine (Oa w).mono ?_;rintro e w1 ⟨rfl, l1⟩;have b1 := hi_ l1.below;clear l1;unfold Ob;go_wp2_with fail;go_loopw [7] (fun vk wr => ∃ k : Nat, vk = .int .i64 k ∧ k ≤ 5 ∧ Hid (∀ j, j < k → zn s.data.toList j = false) ∧ Hid (Below w.heap.size w wr)) (fun vk _ => 5 - (intOf vk).toNat);case atStart => exact ⟨0, rfl, by omega, hi_ (fun j h => absurd h (Du _)), b1⟩
 case round =>
  obtain ⟨k, rfl, hk, hno, hb⟩ := hrel;have h5 : k = 0 ∨ k = 1 ∨ k = 2 ∨ k = 3 ∨ k = 4 ∨ k = 5 := by omega
  clear hk;rcases h5 with rfl | rfl | rfl | rfl | rfl | rfl
  ·have hix := Ak 0 (by omega) wr;unfold Ob at hix;rw [show ((0 : Nat) : Int) = (0 : Int) from rfl] at hix ⊢;go_wp2_with fail;refine (vv (mkB (xe.getD 0 [])) (Ld 0 (by omega)) wr).mono ?_;rintro e w2 ⟨U1, rfl, hU1, hb1⟩;go_wp2_with fail;refine (vv s hs9.out w2).mono ?_;rintro e w3 ⟨U2, rfl, hU2, hb2⟩;have hq := Ec hU1 hU2;have hq' : (U1.toList == U2.toList) = zn s.data.toList 0 := hq;have hb3 := hi_ ((hb.out.trans (hb1.mono hb.out.size)).trans (hb2.mono (ed hb.out.size hb1.size)));clear hb1 hb2 hU1 hU2 hq;cases h : zn s.data.toList 0
   ·rw [h] at hq';have hno' : Hid (∀ j, j < 0 + 1 → zn s.data.toList j = false) := hi_ (fun j hj => by
     rcases oo j 0 with h1 | h1
     ·exact hno.out j h1
     obtain rfl : j = 0 := (by omega);exact h)
    replace h := hi_ h;go_wp2_with fail;go_roundw;case rel => exact ⟨0 + 1, by go_num, by omega, hno', hb3⟩
    case measure => simp [intOf]
   rw [h] at hq';have hc := hi_ (Dr s.data.toList 0 (by omega) hno.out h);replace h := hi_ h;go_wp2_with fail;go_ret2
   exact Bg hc.out hb3.out
  ·have hix := Ak 1 (by omega) wr;unfold Ob at hix;rw [show ((1 : Nat) : Int) = (1 : Int) from rfl] at hix ⊢;go_wp2_with fail;refine (vv (mkB (xe.getD 1 [])) (Ld 1 (by omega)) wr).mono ?_;rintro e w2 ⟨U1, rfl, hU1, hb1⟩;go_wp2_with fail;refine (vv s hs9.out w2).mono ?_;rintro e w3 ⟨U2, rfl, hU2, hb2⟩;have hq := Ec hU1 hU2;have hq' : (U1.toList == U2.toList) = zn s.data.toList 1 := hq;have hb3 := hi_ ((hb.out.trans (hb1.mono hb.out.size)).trans (hb2.mono (ed hb.out.size hb1.size)));clear hb1 hb2 hU1 hU2 hq;cases h : zn s.data.toList 1
   ·rw [h] at hq';have hno' : Hid (∀ j, j < 1 + 1 → zn s.data.toList j = false) := hi_ (fun j hj => by
     rcases oo j 1 with h1 | h1
     ·exact hno.out j h1
     obtain rfl : j = 1 := (by omega);exact h)
    replace h := hi_ h;go_wp2_with fail;go_roundw;case rel => exact ⟨1 + 1, by go_num, by omega, hno', hb3⟩
    case measure => simp [intOf]
   rw [h] at hq';have hc := hi_ (Dr s.data.toList 1 (by omega) hno.out h);replace h := hi_ h;go_wp2_with fail;go_ret2
   exact Bg hc.out hb3.out
  ·have hix := Ak 2 (by omega) wr;unfold Ob at hix;rw [show ((2 : Nat) : Int) = (2 : Int) from rfl] at hix ⊢;go_wp2_with fail;refine (vv (mkB (xe.getD 2 [])) (Ld 2 (by omega)) wr).mono ?_;rintro e w2 ⟨U1, rfl, hU1, hb1⟩;go_wp2_with fail;refine (vv s hs9.out w2).mono ?_;rintro e w3 ⟨U2, rfl, hU2, hb2⟩;have hq := Ec hU1 hU2;have hq' : (U1.toList == U2.toList) = zn s.data.toList 2 := hq;have hb3 := hi_ ((hb.out.trans (hb1.mono hb.out.size)).trans (hb2.mono (ed hb.out.size hb1.size)));clear hb1 hb2 hU1 hU2 hq;cases h : zn s.data.toList 2
   ·rw [h] at hq';have hno' : Hid (∀ j, j < 2 + 1 → zn s.data.toList j = false) := hi_ (fun j hj => by
     rcases oo j 2 with h1 | h1
     ·exact hno.out j h1
     obtain rfl : j = 2 := (by omega);exact h)
    replace h := hi_ h;go_wp2_with fail;go_roundw;case rel => exact ⟨2 + 1, by go_num, by omega, hno', hb3⟩
    case measure => simp [intOf]
   rw [h] at hq';have hc := hi_ (Dr s.data.toList 2 (by omega) hno.out h);replace h := hi_ h;go_wp2_with fail;go_ret2
   exact Bg hc.out hb3.out
  ·have hix := Ak 3 (by omega) wr;unfold Ob at hix;rw [show ((3 : Nat) : Int) = (3 : Int) from rfl] at hix ⊢;go_wp2_with fail;refine (vv (mkB (xe.getD 3 [])) (Ld 3 (by omega)) wr).mono ?_;rintro e w2 ⟨U1, rfl, hU1, hb1⟩;go_wp2_with fail;refine (vv s hs9.out w2).mono ?_;rintro e w3 ⟨U2, rfl, hU2, hb2⟩;have hq := Ec hU1 hU2;have hq' : (U1.toList == U2.toList) = zn s.data.toList 3 := hq;have hb3 := hi_ ((hb.out.trans (hb1.mono hb.out.size)).trans (hb2.mono (ed hb.out.size hb1.size)));clear hb1 hb2 hU1 hU2 hq;cases h : zn s.data.toList 3
   ·rw [h] at hq';have hno' : Hid (∀ j, j < 3 + 1 → zn s.data.toList j = false) := hi_ (fun j hj => by
     rcases oo j 3 with h1 | h1
     ·exact hno.out j h1
     obtain rfl : j = 3 := (by omega);exact h)
    replace h := hi_ h;go_wp2_with fail;go_roundw;case rel => exact ⟨3 + 1, by go_num, by omega, hno', hb3⟩
    case measure => simp [intOf]
   rw [h] at hq';have hc := hi_ (Dr s.data.toList 3 (by omega) hno.out h);replace h := hi_ h;go_wp2_with fail;go_ret2
   exact Bg hc.out hb3.out
  ·have hix := Ak 4 (by omega) wr;unfold Ob at hix;rw [show ((4 : Nat) : Int) = (4 : Int) from rfl] at hix ⊢;go_wp2_with fail;refine (vv (mkB (xe.getD 4 [])) (Ld 4 (by omega)) wr).mono ?_;rintro e w2 ⟨U1, rfl, hU1, hb1⟩;go_wp2_with fail;refine (vv s hs9.out w2).mono ?_;rintro e w3 ⟨U2, rfl, hU2, hb2⟩;have hq := Ec hU1 hU2;have hq' : (U1.toList == U2.toList) = zn s.data.toList 4 := hq;have hb3 := hi_ ((hb.out.trans (hb1.mono hb.out.size)).trans (hb2.mono (ed hb.out.size hb1.size)));clear hb1 hb2 hU1 hU2 hq;cases h : zn s.data.toList 4
   ·rw [h] at hq';have hno' : Hid (∀ j, j < 4 + 1 → zn s.data.toList j = false) := hi_ (fun j hj => by
     rcases oo j 4 with h1 | h1
     ·exact hno.out j h1
     obtain rfl : j = 4 := (by omega);exact h)
    replace h := hi_ h;go_wp2_with fail;go_roundw;case rel => exact ⟨4 + 1, by go_num, by omega, hno', hb3⟩
    case measure => simp [intOf]
   rw [h] at hq';have hc := hi_ (Dr s.data.toList 4 (by omega) hno.out h);replace h := hi_ h;go_wp2_with fail;go_ret2
   exact Bg hc.out hb3.out
  rw [show ((5 : Nat) : Int) = (5 : Int) from rfl];go_wp2_with fail;refine (ej_ s hs9.out wr).mono ?_;rintro e w2 ⟨rfl, rfl⟩;have hck := hi_ (Rp s.data.toList hno.out);cases ha : Eg v_ s.data.toList
  ·have hn : Hid (qp s.data.toList = none) := hi_ (by rw [hck.out, I_, ha]; rfl);clear hck;replace ha := hi_ ha;go_wp2_with fail;go_ret2
   exact Ku hn.out hb.out
  by_cases hlen : s.size ≤ 32
  ·have hy : Hid (qp s.data.toList = some (Bt s.data.toList)) := hi_ (by rw [hck.out, I_, ha, ← zy, b_ hlen]; rfl);clear hck;replace ha := hi_ ha;go_wp2_with fail;refine (aa_ s hs9.out wr).mono ?_;rintro e w3 ⟨rfl, hb3⟩;have hb4 := hi_ (hb.out.trans (hb3.mono hb.out.size));clear hb3;go_wp2_with fail;go_ret2
   exact Bg hy.out hb4.out
  have hn : Hid (qp s.data.toList = none) := hi_ (by rw [hck.out, I_, ha, ← zy, aj hlen]; rfl);clear hck;replace ha := hi_ ha;go_wp2_with fail;go_ret2
  exact Ku hn.out hb.out
theorem Ex (k : Nat) (hk : k < 5) (w : World) : Calls prog 132 #[.int .i64 k] w fun e w' => e = .returned (.string (mkB (xe.getD k []))) ∧ w = w' := by
 have h5 : k = 0 ∨ k = 1 ∨ k = 2 ∨ k = 3 ∨ k = 4 := by omega
 clear hk;rcases h5 with rfl | rfl | rfl | rfl | rfl;all_goals
  go_enter func132, ntmps132;go_wp2_with fail;go_ret;exact ⟨rfl, rfl⟩
end
section
open Go.RowKit
set_option maxHeartbeats 400000 in
theorem eh_ (c : Int) (w : World) (h0 : 0 ≤ c) (h1 : c < 256) :
  Calls prog 114 #[.int .u8 c] w fun e w' => e = .returned (.bool (Ha c)) ∧ w = w' := by
 go_enter func114, ntmps114;go_wp2_with (go_at_call 115; refine (Jf _ _ (by omega) (by omega) _).mono ?_; rintro e w' ⟨r, rfl, hr, rfl⟩);all_goals (go_ret; first | (have hr := hr.out; exact ⟨mo (by rw [hr]; unfold Ha; generalize inL c _ = b; cases b <;> simp <;> omega), rfl⟩) | exact ⟨mo (by unfold Ha; generalize inL c _ = b; cases b <;> simp <;> omega), rfl⟩)
theorem Wl : gy_ prog 114 Ha := ⟨fun _ _ => by go_simp, fun c w h0 h1 => eh_ c w h0 h1⟩
theorem af_ {p : Int → Bool} (s : ByteArray) (k : Nat) (h : k < s.size) (hq : Hid (He p (s.data.toList.take k) = true)) (hc : p s[k].toNat = true) : Hid (He p (s.data.toList.take (k + 1)) = true) := by
 show _ = _;rw [vg s k h, Ma, hq.out, hc]; rfl
def Ag : List UInt8 := [73, 78, 66, 79, 88]
def Ns (l : List UInt8) : Bool := !((l.headD 0).toNat == (32 : Int)) && !((l.getLastD 0).toNat == (32 : Int))
def uu (l : List UInt8) : Bool := Eg Ha l && (decide (l.length ≤ 64) && Ns l)
def Kw (l : List UInt8) : List UInt8 := if uu l then (if upL l == Ag then Ag else l) else []
def es_ (l : List UInt8) (w : World) (e : Ending) (w' : World) : Prop := ∃ u : ByteArray, e = .returned (.tuple #[.string u, .bool (uu l)]) ∧ Hid (u.data.toList = Kw l) ∧ Below w.heap.size w w'
theorem Zf (s : ByteArray) (h : 0 < s.size) : s.data.toList.headD 0 = s[0] := by
 have := Cn s 0 h;rw [List.drop_zero] at this;generalize s.data.toList.drop (0 + 1) = r at this;rw [this]; rfl
theorem last_at (s : ByteArray) (h : 0 < s.size) : s.data.toList.getLastD 0 = s[s.size - 1]'(by omega) := by
 have h1 := vg s (s.size - 1) (by omega);rw [show s.size - 1 + 1 = s.size from by omega, Bj] at h1;generalize s.data.toList.take (s.size - 1) = r at h1;rw [h1]; simp
theorem Ij {l : List UInt8} (h : uu l = false) : Kw l = [] := by rw [Kw, h]; rfl
theorem Ap {l : List UInt8} {s : ByteArray} {b : Bool} (h : b = uu l) : Ending.returned (.tuple #[.string s, .bool b]) = .returned (.tuple #[.string s, .bool (uu l)]) := by rw [h]
theorem en_ {p : Int → Bool} {s : ByteArray} (h : Eg p s.data.toList = true) : 0 < s.size := by
 rcases n_ s.size with h' | h'
 ·rw [zy] at h'; rw [eu h'] at h; simp [Eg] at h
 exact h'
theorem Nf (s : ByteArray) (h : ¬ s.size ≤ 64) : uu s.data.toList = false := by rw [uu, ← zy, aj h]; simp
theorem Rv (s : ByteArray) (h : 0 < s.size) (h0 : ((s[0].toNat : Int) == 32) = true) : uu s.data.toList = false := by rw [uu, Ns, Zf s h, h0]; simp
theorem Ru (s : ByteArray) (h : 0 < s.size) (h1 : (((s[s.size - 1]'(by omega)).toNat : Int) == 32) = true) : uu s.data.toList = false := by rw [uu, Ns, last_at s h, h1]; simp
theorem V_ (s : ByteArray) (h : 0 < s.size) (ha : Eg Ha s.data.toList = true) (hsz : s.size ≤ 64) (h0 : ((s[0].toNat : Int) == 32) = false) (h1 : (((s[s.size - 1]'(by omega)).toNat : Int) == 32) = false) : uu s.data.toList = true := by
 rw [uu, Ns, Zf s h, last_at s h, h0, h1, ha, ← zy, b_ hsz]; rfl
theorem Rs {s u : ByteArray} (hk : uu s.data.toList = true) (hu : u.data.toList = upL s.data.toList) (hn : (u.toList == [73, 78, 66, 79, 88]) = true) : (⟨#[73, 78, 66, 79, 88]⟩ : ByteArray).data.toList = Kw s.data.toList := by
 rw [ib, hu] at hn;rw [Kw, hk, dh rfl, dh (show (upL s.data.toList == Ag) = true from hn)]; rfl
theorem Vz {s u : ByteArray} (hk : uu s.data.toList = true) (hu : u.data.toList = upL s.data.toList) (hn : (u.toList == [73, 78, 66, 79, 88]) = false) : s.data.toList = Kw s.data.toList := by
 rw [ib, hu] at hn;rw [Kw, hk, dh rfl, bq (by rw [Ag, hn]; simp)]
set_option maxHeartbeats 2000000 in
theorem fy_ (s : ByteArray) (hs : s.size ≤ maxLen) (w : World) :
  Calls prog 82 #[.string s] w (es_ s.data.toList w) := by
 unfold maxLen at hs;cases ha : Eg Ha s.data.toList;case' false => have hf : Hid (uu s.data.toList = false) := by show _ = _; rw [uu, ha]; rfl
 case' true => have hpos := en_ ha
 case' true => by_cases hsz : s.size ≤ 64
 case' neg => have hf := hi_ (Nf s hsz)
 case' pos => cases h0 : ((s[0].toNat : Int) == 32)
 case' pos.true => have hf := hi_ (Rv s hpos h0)
 case' pos.false => cases h1 : (((s[s.size - 1]'(by omega)).toNat : Int) == 32)
 case' pos.false.true => have hf := hi_ (Ru s hpos h1)
 case' pos.false.false =>
  have hg := hi_ (V_ s hpos ha hsz h0 h1);go_enter func82, ntmps82;go_wp2_with fail;refine (Tu _ _ Wl s (by unfold maxLen; omega) w).mono ?_;rintro e w' ⟨rfl, rfl⟩;rw [ha];go_wp2_with fail;refine (vv s (by unfold maxLen; omega) w).mono ?_;rintro e w1 ⟨u, rfl, hu, hbw⟩;cases hn : (u.toList == [73, 78, 66, 79, 88])
  ·go_wp2_with fail;go_ret2
   exact ⟨_, Ap hg.out.symm, Vz hg.out hu.out hn, hbw⟩
  go_wp2_with fail;go_ret2
  exact ⟨_, Ap hg.out.symm, Rs hg.out hu.out hn, hbw⟩
 all_goals
  go_enter func82, ntmps82;go_wp2_with fail;refine (Tu _ _ Wl s (by unfold maxLen; omega) w).mono ?_;rintro e w' ⟨rfl, rfl⟩;rw [ha];go_wp2_with fail;go_ret2
  exact ⟨⟨#[]⟩, Ap hf.out.symm, (Ij hf.out).symm, ae _ _⟩
theorem Wi {c : Int} (h : c < 32) : Ha c = false := by rw [Ha, aj (by omega)]; rfl
theorem Rw {c : Int} (h : 126 < c) : Ha c = false := by rw [Ha, aj (p := c < 127) (by omega)]; simp
theorem ef_ {c : Int} (h1 : 32 ≤ c) (h2 : c ≤ 126) : Ha c = !inL c [37, 42, 34, 92] := by rw [Ha, b_ h1, b_ (p := c < 127) (by omega)]; rfl
theorem Ju {p : Int → Bool} (s : ByteArray) (k : Nat) (h : k < s.size) (hp : p s[k].toNat = false) : Eg p s.data.toList = false := by rw [Eg, Jv p s k h hp]; rfl
theorem bz_ {p : Int → Bool} (s : ByteArray) (h : 0 < s.size) (hp : He p s.data.toList = true) : Eg p s.data.toList = true := by
 rw [Eg, hp, ← Eu, b_ h]; rfl
theorem eg_ {c : Int} (h : (c < 32 ∨ 126 < c) ∨ inL c [37, 42, 34, 92] = true) : Ha c = false := by
 rcases h with (h | h) | h
 ·exact Wi h
 ·exact Rw h
 rw [Ha, h]; simp
theorem Et (s : ByteArray) (h : Eg Ha s.data.toList = false) : uu s.data.toList = false := by rw [uu, h]; rfl
set_option maxHeartbeats 2000000 in
theorem Oq (s : ByteArray) (hs : s.size ≤ maxLen) (w : World) :
  Calls prog 101 #[.string s] w (es_ s.data.toList w) := by
 unfold maxLen at hs;by_cases hpos : 0 < s.size
 ·by_cases hsz : s.size ≤ 64
  ·cases h0 : ((s[0].toNat : Int) == 32);case true =>
    have hf := hi_ (Rv s hpos h0);go_enter func101, ntmps101;go_wp2_with fail;go_ret2
    exact ⟨⟨#[]⟩, Ap hf.out.symm, (Ij hf.out).symm, ae _ _⟩
   cases h1 : (((s[s.size - 1]'(by omega)).toNat : Int) == 32);case true =>
    have hf := hi_ (Ru s hpos h1);go_enter func101, ntmps101;go_wp2_with fail;go_ret2
    exact ⟨⟨#[]⟩, Ap hf.out.symm, (Ij hf.out).symm, ae _ _⟩
   have hg : Hid (Eg Ha s.data.toList = true → uu s.data.toList = true) := fun ha => V_ s hpos ha hsz h0 h1;go_enter func101, ntmps101;go_wp2_with fail;clear h0 h1;go_loop [4] (fun i => ∃ k : Nat, k ≤ s.size ∧ i = .int .i64 k ∧ Hid (He Ha (s.data.toList.take k) = true)) (fun i => s.size - (intOf i).toNat)
   case atStart => exact ⟨0, dw _, rfl, rfl⟩
   case round =>
    obtain ⟨k, hk, rfl, hp⟩ := hrel;by_cases hlt : k < s.size
    ·go_wp2_with (go_at_call 130; refine (di_ _ _ (by decide) _).mono ?_; rintro e w' ⟨rfl, rfl⟩);case' roundEnd =>
      have hh : (32 ≤ (s[k].toNat : Int) ∧ (s[k].toNat : Int) ≤ 126) ∧ inL s[k].toNat [37, 42, 34, 92] = false := (by assumption);exact ⟨⟨k + 1, by omega, by go_num, af_ s k hlt hp (by rw [ef_ hh.1.1 hh.1.2, hh.2]; rfl)⟩, by simp [intOf]; omega⟩
     ·have hh : ((s[k].toNat : Int) < 32 ∨ 126 < (s[k].toNat : Int)) ∨ inL s[k].toNat [37, 42, 34, 92] = true := (by assumption);have hf := hi_ (Et s (Ju s k hlt (eg_ hh)));go_ret2
      exact ⟨⟨#[]⟩, Ap hf.out.symm, (Ij hf.out).symm, ae _ _⟩
     ·have hh : 126 < (s[k].toNat : Int) := (by assumption);have hf := hi_ (Et s (Ju s k hlt (Rw hh)));go_ret2
      exact ⟨⟨#[]⟩, Ap hf.out.symm, (Ij hf.out).symm, ae _ _⟩
     have hh : (s[k].toNat : Int) < 32 := (by assumption);have hf := hi_ (Et s (Ju s k hlt (Wi hh)));go_ret2
     exact ⟨⟨#[]⟩, Ap hf.out.symm, (Ij hf.out).symm, ae _ _⟩
    obtain rfl : k = s.size := (by omega);rw [Bj] at hp;have hk2 := hi_ (hg.out (bz_ s hpos hp.out));go_wp2_with fail;refine (Ew s (by unfold maxLen; omega) w).mono ?_;rintro e w1 ⟨u, rfl, hu, hbw⟩;cases hn : (u.toList == [73, 78, 66, 79, 88])
    ·go_wp2_with fail;go_ret2
     exact ⟨_, Ap hk2.out.symm, Vz hk2.out hu.out hn, hbw⟩
    go_wp2_with fail;go_ret2
    exact ⟨_, Ap hk2.out.symm, Rs hk2.out hu.out hn, hbw⟩
  have hf := hi_ (Nf s hsz);go_enter func101, ntmps101;go_wp2_with fail;go_ret2
  exact ⟨⟨#[]⟩, Ap hf.out.symm, (Ij hf.out).symm, ae _ _⟩
 have hf : Hid (uu s.data.toList = false) := Et s (by rw [eu (l := s.data.toList) (by rw [← zy]; omega)]; rfl);go_enter func101, ntmps101;go_wp2_with fail;go_ret2
 exact ⟨⟨#[]⟩, Ap hf.out.symm, (Ij hf.out).symm, ae _ _⟩
end
end Go.Proofs.YtdobbfjmlnlieaaGreat
