/- Has, Right of both, great: walked; great letters; the laws FlagNames and FlagOnce: walked; The law FlagOnce: walked; Lists put together (slices; slices; Change, of the program and of the document; The document's Change: walked; append: walked; expunge: its closure: walked -/
import Derived.Test.YtdobbfjmlnlieaaGreatA01
import Derived.Test.YtdobbfjmlnlieaaGreatA06
import Derived.Lib.AppendZeros
import Derived.Laws.EntriesVeiled
import Derived.Deep.DeepCutAuto
namespace Go.Proofs.YtdobbfjmlnlieaaGreat
set_option linter.unusedSimpArgs false
namespace Tryz
end Tryz
open Go.Proofs.Tryz Go.Proofs.YtdobbfjmlnlieaaGreat.Tryz
section
open Go.RowKit
def kr (l : List (List UInt8)) : Bool := (l.all fun f => decide (qp f = some f)) && (decide (l.length ≤ 16) && decide (l = ni l))
theorem x_ (l : List (List UInt8)) : kr l = true ↔ (∀ f ∈ l, qp f = some f) ∧ l.length ≤ 16 ∧ u_ flt l := by
 rw [kr];simp only [qd, C_, decide_eq_true_eq];constructor
 ·rintro ⟨h1, h2, h3⟩; exact ⟨h1, h2, by rw [h3]; exact En uz l⟩
 rintro ⟨h1, h2, h3⟩; exact ⟨h1, h2, (Dy uz l h3).symm⟩
theorem Gj {l : List (List UInt8)} {f : List UInt8} (hf : f ∈ l) (hn : qp f ≠ some f) : kr l = false := by
 cases h : kr l
 ·rfl
 exact absurd (((x_ l).1 h).1 f hf) hn
set_option maxHeartbeats 1000000 in
theorem Zg (v : Value) (l : List (List UInt8)) (f : ByteArray) (w : World) (hr : Rd w v l.length (l.map encStr)) (hl : l.length * 16 ≤ 140737488355328) :
  Calls prog 94 #[v, .string f] w fun e w' => e = .returned (.bool (decide (f.data.toList ∈ l))) ∧ w = w' := by
 have hc : Calls prog 128 #[v, .string f] w fun e w' => e = .returned (.bool (decide (f.data.toList ∈ l))) ∧ w = w' := by
  obtain ⟨ao, cap, rfl, h⟩ := hr;rcases h with h | ⟨b, o, rfl, hb, hle, hc⟩
  ·obtain rfl := eu h;exact (slices_Contains_string_empty ao cap f w).mono fun _ _ ⟨he, hw⟩ => ⟨by rw [he]; simp, hw.symm⟩
  have h := slices_Contains_string b o l.length cap (l.map mkB) f w (by simp) (by omega) (fun j hj => by
   have hj' : j < l.length := (by simpa using hj);rw [Aq hc hj'];simp [List.getD, hj'])
  have e : Lib.containsS ((l.map mkB).take l.length) f = decide (f.data.toList ∈ l) := by
   rw [Qe, Lib.containsS_iff, jr (by simp), decide_eq_true_eq, List.mem_map];constructor
   ·rintro ⟨x, hx, rfl⟩; exact hx
   intro hx; exact ⟨_, hx, rfl⟩
  rw [e] at h;exact h.mono fun _ _ ⟨he, hw⟩ => ⟨he, hw.symm⟩
 replace hc := hi_ hc;generalize decide (f.data.toList ∈ l) = B at hc ⊢;clear hr;go_enter func94, ntmps94;go_wp2_with fail;refine hc.out.mono ?_;rintro e w' ⟨rfl, rfl⟩;go_wp2_with fail;go_ret;exact ⟨rfl, rfl⟩
theorem Rm (v1 v2 : Value) (l m : List (List UInt8)) (w : World) (h1 : Rd w v1 l.length (l.map encStr)) (h2 : Rd w v2 m.length (m.map encStr)) (hl : l.length * 16 ≤ 140737488355328) (hm : m.length * 16 ≤ 140737488355328) :
  Calls prog 59 #[v1, v2] w fun e w' => e = .returned (.bool (decide (l = m))) ∧ Hid (Below w.heap.size w w') := by
 obtain ⟨a1, c1, rfl, h1⟩ := h1;obtain ⟨a2, c2, rfl, h2⟩ := h2;by_cases hlen : l.length = m.length
 ·rcases h1 with h1 | ⟨b1, o1, rfl, hb1, hle1, hc1⟩
  ·obtain rfl := eu h1;have hm0 : m = [] := eu (by rw [← hlen]; rfl);subst hm0;exact (slices_Equal_string_empty a1 a2 c1 0 c2 w (by omega)).mono fun _ _ ⟨he, hw⟩ => ⟨he, hi_ (by rw [hw]; exact ae _ _)⟩
  rcases h2 with h2 | ⟨b2, o2, rfl, hb2, hle2, hc2⟩
  ·have hm0 : m = [] := eu h2;subst hm0;have hl0 : l = [] := eu (by rw [hlen]; rfl);subst hl0;exact (slices_Equal_string_empty _ a2 c1 0 c2 w (by omega)).mono fun _ _ ⟨he, hw⟩ => ⟨he, hi_ (by rw [hw]; exact ae _ _)⟩
  have cell : ∀ (l : List (List UInt8)) (b o : Nat), (∀ i u, (l.map encStr)[i]? = some u → w.cell? ⟨b, o + i, none⟩ = some u) → ∀ j, j < (l.map mkB).length → w.cell? ⟨b, o + j, none⟩ = some (.string ((l.map mkB).getD j ByteArray.empty)) := fun l b o hc j hj => by
   have hj' : j < l.length := (by simpa using hj);rw [Aq hc hj'];simp [List.getD, hj']
  have h := slices_Equal_string b1 o1 l.length c1 b2 o2 m.length c2 (l.map mkB) (m.map mkB) w (by simp) (by simp) (by omega) (by omega) (cell l b1 o1 hc1) (cell m b2 o2 hc2);have e : decide ((l.map mkB).take l.length = (m.map mkB).take m.length) = decide (l = m) := by
   rw [jr (by simp), jr (by simp), decide_eq_decide];constructor
   ·intro h;have h' := jk (List.map fun s : ByteArray => s.data.toList) h;rw [List.map_map, List.map_map] at h';have id1 : ∀ l : List (List UInt8), l.map ((fun s : ByteArray => s.data.toList) ∘ mkB) = l := fun l => List.map_id' l;rwa [id1, id1] at h'
   rintro rfl; rfl
  rw [e] at h;exact h.mono fun _ _ ⟨he, q, hw⟩ => ⟨he, hi_ (by rw [hw]; exact qw (ae _ _) _)⟩
 exact (slices_Equal_string_lens a1 a2 l.length c1 m.length c2 w hlen).mono fun _ _ ⟨he, hw⟩ => ⟨by rw [he, aj (fun e => hlen (by rw [e]))], hi_ (by rw [hw]; exact ae _ _)⟩
set_option maxRecDepth 100000 in
set_option maxHeartbeats 2000000 in
theorem Ip (v : Value) (l : List (List UInt8)) (w : World) (hr : Rd w v l.length (l.map encStr)) (hl : (l.length + 2) * 16 ≤ 140737488355328) (hs : Eh l) :
  Calls prog 87 #[v] w fun e w' => e = .returned (.bool (kr l)) ∧ Hid (Below w.heap.size w w') := by
 have hr0 := hi_ hr;replace hs := hi_ hs;obtain ⟨ao, cap, rfl, -⟩ := hr;go_enter func87, ntmps87;go_wp2_with fail;go_loopw [9] (fun vk wr => ∃ (k : Nat), vk = .int .i64 k ∧ k ≤ l.length ∧ Hid (∀ f ∈ l.take k, qp f = some f) ∧ Hid (Below w.heap.size w wr)) (fun vk _ => l.length - (intOf vk).toNat);case atStart => exact ⟨0, rfl, dw _, hi_ (by simp), hi_ (ae _ _)⟩
 case round =>
  obtain ⟨k, rfl, hk, hfix, hb⟩ := hrel;by_cases hlt : k < l.length
  ·obtain ⟨b, o, hao, hbl, hcell⟩ := hr0.out.Bz (by omega);subst hao;have hcw : wr.cell? ⟨b, o + k, none⟩ = some (.string (mkB l[k])) := (hb.out.cell (p := ⟨b, o + k, none⟩) hbl).trans (Aq hcell hlt);have hcan := hi_ (bq_ (mkB l[k]) (hs.out _ (bg hlt)) wr);rw [vz] at hcan;have hX : Hid ((mkB l[k]).data.toList = l[k]) := hi_ rfl;generalize mkB l[k] = X at hcw hcan hX;clear hcell;go_wp2_with fail;refine hcan.out.mono ?_;rintro e w2 ⟨u, ok, rfl, hu, hb2⟩;have hb3 := hi_ (hb.out.trans (hb2.out.mono hb.out.size));clear hcan hb2;cases ok
   ·have hno : Hid (kr l = false) := hi_ (Gj (bg hlt) (by rw [hu.out.1]; simp));clear hu;go_wp2_with fail;go_ret;exact ⟨by rw [hno.out]; rfl, hb3⟩
   have hq : (u.toList == X.toList) = (u.data.toList == l[k]) := (by rw [Ie, hX.out]);have hu1 : Hid (qp l[k] = some u.data.toList) := hi_ hu.out.1;clear hu;cases h : (u.data.toList == l[k])
   ·have hno : Hid (kr l = false) := hi_ (Gj (bg hlt) (by
     rw [hu1.out]; intro e; rw [jc e] at h; simp at h))
    rw [h] at hq;replace h := hi_ h;go_wp2_with fail;go_ret;exact ⟨by rw [hno.out]; rfl, hb3⟩
   have hn : Hid (∀ f ∈ l.take (k + 1), qp f = some f) := hi_ (by
    intro f hf;rw [ak hlt, fe] at hf;rcases hf with hf | hf
    ·exact hfix.out f hf
    have : f = l[k] := (by simpa using hf);rw [this, hu1.out, eq_of_beq h])
   rw [h] at hq;replace h := hi_ h;go_wp2_with fail;go_roundw;case rel => exact ⟨k + 1, by go_num, by omega, hn, hb3⟩
   case measure => simp [intOf]; omega
  have hall : Hid ((l.all fun f => decide (qp f = some f)) = true) := hi_ (by
   have h := hfix.out;rw [jr (by omega)] at h;rw [C_];intro f hf;exact b_ (h f hf))
  by_cases h16 : l.length ≤ 16
  ·have hR : Hid (kr l = decide (l = ni l)) := hi_ (by rw [kr, hall.out, b_ h16]; rfl);have hrw := hi_ (hr0.out.below hb.out);go_wp2_with fail;refine (Np _ l wr hrw.out (by omega)).mono ?_;rintro e w2 ⟨v2, rfl, ho2, hb2⟩;have hb3 := hi_ (hb.out.trans (hb2.out.mono hb.out.size));have hfl : (ni l).length ≤ l.length := yn flt l;have heq := hi_ (Rm _ v2 l (ni l) w2 (hrw.out.below hb2.out) ho2.out.rd (by omega) (by omega));rw [← hR.out] at heq;clear hb2;go_wp2_with fail;refine heq.out.mono ?_;rintro e w3 ⟨rfl, hb4⟩;have hb5 := hi_ (hb3.out.trans (hb4.out.mono hb3.out.size));obtain ⟨B, hB⟩ : ∃ B, Hid (kr l = B) := ⟨_, hi_ rfl⟩;rw [hB.out];go_wp2_with fail;go_ret;exact ⟨by rw [hB.out]; rfl, hb5⟩
  have hR : Hid (kr l = false) := hi_ (by rw [kr, aj h16]; simp);go_wp2_with fail;go_ret;exact ⟨by rw [hR.out]; rfl, hb⟩
theorem Sg {l : List (List UInt8)} {k : Nat} (hk : k + 1 < l.length) (h : u_ flt (l.take (k + 1))) (hlt : flt l[k] l[k + 1] = true) : u_ flt (l.take (k + 2)) := by
 rw [ak hk];refine j3.2 ⟨h, uq _ _, fun a ha b hb => ?_⟩;have hb' : b = l[k + 1] := by simpa using hb
 subst hb';rw [ak (show k < l.length by omega)] at h ha;rcases fe.1 ha with ha | ha
 ·exact uz.trans _ _ _ ((j3.1 h).2.2 a ha l[k] (by simp)) hlt
 have : a = l[k] := by simpa using ha
 rw [this]; exact hlt
theorem Uv {l : List (List UInt8)} {k : Nat} (hk : k + 1 < l.length) (hlt : flt l[k] l[k + 1] = false) : ¬ u_ flt l := fun h => by
 have := gm.1 h k (k + 1) (by omega) hk (by omega);rw [hlt] at this; cases this
set_option maxRecDepth 100000 in
set_option maxHeartbeats 2000000 in
theorem Bq (v : Value) (l : List (List UInt8)) (w : World) (hr : Rd w v l.length (l.map encStr)) (hl : (l.length + 2) * 16 ≤ 140737488355328) (hs : Eh l) :
  Calls prog 66 #[v] w fun e w' => e = .returned (.bool (kr l)) ∧ Hid (Below w.heap.size w w') := by
 have hr0 := hi_ hr;replace hs := hi_ hs;obtain ⟨ao, cap, rfl, -⟩ := hr;go_enter func66, ntmps66;go_wp2_with fail;go_loopw [3] (fun vk wr => ∃ (k : Nat), vk = .int .i64 k ∧ k ≤ l.length ∧ Hid (∀ f ∈ l.take k, qp f = some f) ∧ Hid (u_ flt (l.take k)) ∧ Hid (Below w.heap.size w wr)) (fun vk _ => l.length - (intOf vk).toNat);case atStart => exact ⟨0, rfl, dw _, hi_ (by simp), hi_ tq, hi_ (ae _ _)⟩
 case round =>
  obtain ⟨k, rfl, hk, hfix, hsrt, hb⟩ := hrel;by_cases hlt : k < l.length
  ·obtain ⟨b, o, hao, hbl, hcell⟩ := hr0.out.Bz (by omega);subst hao;have hc : ∀ wz j (hj : j < l.length), Below w.heap.size w wz → wz.cell? ⟨b, o + j, none⟩ = some (.string (mkB l[j])) := fun wz j hj hz => (hz.cell (p := ⟨b, o + j, none⟩) hbl).trans (Aq hcell hj);have hcw := hc wr k hlt hb.out;replace hc := hi_ hc;have hcan := hi_ (S_ (mkB l[k]) (hs.out _ (bg hlt)) wr);rw [vz] at hcan;clear hcell;obtain ⟨X, hX⟩ : ∃ X, Hid (mkB l[k] = X) := ⟨_, hi_ rfl⟩;have hXl : Hid (X.data.toList = l[k]) := hi_ (by rw [← hX.out, vz]);rw [hX.out] at hcw hcan;go_wp2_with fail;refine hcan.out.mono ?_;rintro e w2 ⟨u, ok, rfl, hu, hb2⟩;have hb3 := hi_ (hb.out.trans (hb2.out.mono hb.out.size));have hcw2 : w2.cell? ⟨b, o + k, none⟩ = some (.string X) := (by rw [← hX.out]; exact hc.out w2 k hlt hb3.out);clear hcan hb2;cases ok
   ·have hno : Hid (kr l = false) := hi_ (Gj (bg hlt) (by rw [hu.out.1]; simp));clear hu;go_wp2_with fail;go_quiet (fail);go_wp2_with fail;go_ret;exact ⟨by rw [hno.out]; rfl, hi_ (qw hb3.out _)⟩
   have hq : (u.toList == X.toList) = (u.data.toList == l[k]) := (by rw [Ie, hXl.out]);have hu1 : Hid (qp l[k] = some u.data.toList) := hi_ hu.out.1;clear hu;cases h : (u.data.toList == l[k])
   ·have hno : Hid (kr l = false) := hi_ (Gj (bg hlt) (by
     rw [hu1.out]; intro e; rw [jc e] at h; simp at h))
    rw [h] at hq;replace h := hi_ h;go_wp2_with fail;go_quiet (fail);go_wp2_with fail;go_ret;exact ⟨by rw [hno.out]; rfl, hi_ (qw hb3.out _)⟩
   have hn : Hid (∀ f ∈ l.take (k + 1), qp f = some f) := hi_ (by
    intro f hf;rw [ak hlt, fe] at hf;rcases hf with hf | hf
    ·exact hfix.out f hf
    have : f = l[k] := (by simpa using hf);rw [this, hu1.out, eq_of_beq h])
   rw [h] at hq;replace h := hi_ h;rcases n_ k with hk0 | hk0
   ·have hso : Hid (u_ flt (l.take (k + 1))) := hi_ (by
     subst hk0;rw [ak hlt]; exact uq _ _)
    subst hk0;have hl0 : (0 : Int) < (l.length : Int) := (by omega);have hcw0 : w2.cell? ⟨b, o, none⟩ = some (.string X) := hcw2;go_wp2_with fail;go_quiet (fail);go_wp2_with fail;go_roundw;case rel => exact ⟨1, by go_num, by omega, hn, hso, hi_ (qw hb3.out _)⟩
    case measure => simp [intOf]; omega
   obtain ⟨j, rfl⟩ : ∃ j, k = j + 1 := ⟨k - 1, by omega⟩;have hjl : j < l.length := (by omega);have hcp := hc.out w2 j hjl hb3.out;obtain ⟨Y, hY⟩ : ∃ Y, Hid (mkB l[j] = Y) := ⟨_, hi_ rfl⟩;have hYl : Hid (Y.data.toList = l[j]) := hi_ (by rw [← hY.out, vz]);rw [hY.out] at hcp;have hless : ∀ n, Calls prog 107 #[.string Y, .string X] (w2.drewN n) fun e w' => e = .returned (.bool (flt l[j] l[j + 1])) ∧ w' = w2.drewN n := fun n => (Mr Y X (w2.drewN n)).mono fun _ _ ⟨h1, h2⟩ => ⟨by rw [h1, hYl.out, hXl.out], h2.symm⟩;have hs1 : Hid (flt l[j] l[j + 1] = true → u_ flt (l.take (j + 1 + 1))) := hi_ (fun h => Sg hlt hsrt.out h);have hs2 : Hid (flt l[j] l[j + 1] = false → kr l = false) := hi_ (fun h => by
    cases hR : kr l
    ·rfl
    exact absurd ((x_ l).1 hR).2.2 (Uv hlt h))
   replace hless := hi_ hless;have hjp : (0 : Int) < (j : Int) + 1 := (by omega);have hjp1 : decide ((0 : Int) < (j : Int) + 1) = true := b_ hjp;cases hf : flt l[j] l[j + 1]
   ·have hno := hi_ (hs2.out hf);rw [hf] at hless;replace hf := hi_ hf;clear hs1 hs2;go_wp2_with fail;go_quiet ((go_at_call 107; exact Calls.quiet_of_same (hless.out _)));go_wp2_with fail;go_ret;exact ⟨by rw [hno.out]; rfl, hi_ (qw hb3.out _)⟩
   have hso := hi_ (hs1.out hf);rw [hf] at hless;replace hf := hi_ hf;clear hs1 hs2;go_wp2_with fail;go_quiet ((go_at_call 107; exact Calls.quiet_of_same (hless.out _)));go_wp2_with fail;go_roundw;case rel => exact ⟨j + 1 + 1, by go_num, by omega, hn, hso, hi_ (qw hb3.out _)⟩
   case measure => simp [intOf]; omega
  have hRR : Hid (kr l = decide ((l.length : Int) ≤ 16)) := hi_ (by
   rw [show decide ((l.length : Int) ≤ 16) = decide (l.length ≤ 16) by rw [decide_eq_decide]; omega];have h1 := hfix.out;have h2 := hsrt.out;rw [jr (by omega)] at h1 h2;by_cases h16 : l.length ≤ 16
   ·rw [b_ h16]; exact (x_ l).2 ⟨h1, h16, h2⟩
   rw [aj h16, kr, aj h16]; simp)
  go_wp2_with fail;go_ret;exact ⟨by rw [hRR.out]; rfl, hb⟩
end
section
open Go.RowKit
theorem Fy (p : UInt8 → Bool) (h : ∀ n, n < 256 → p (UInt8.ofNat n) = true) (b : UInt8) : p b = true := by
 have := h b.toNat b.toNat_lt;rwa [UInt8.ofNat_toNat] at this
theorem gm_ (b : UInt8) : upB (De b) = upB b := by simpa using Fy (fun b => upB (De b) == upB b) (by decide +kernel) b
theorem hb_ (b : UInt8) : upB (upB b) = upB b := by simpa using Fy (fun b => upB (upB b) == upB b) (by decide +kernel) b
theorem fs_ (b : UInt8) : De (De b) = De b := by simpa using Fy (fun b => De (De b) == De b) (by decide +kernel) b
theorem gr_ (b : UInt8) : De (upB b) = De b := by simpa using Fy (fun b => De (upB b) == De b) (by decide +kernel) b
theorem ei_ (b : UInt8) : v_ (De b).toNat = v_ b.toNat := by simpa using Fy (fun b => v_ (De b).toNat == v_ b.toNat) (by decide +kernel) b
theorem fz_ (b : UInt8) : v_ (upB b).toNat = v_ b.toNat := by simpa using Fy (fun b => v_ (upB b).toNat == v_ b.toNat) (by decide +kernel) b
theorem Sb (l : List UInt8) : upL (Bt l) = upL l := by simp [upL, Bt, gm_]
theorem gn_ (l : List UInt8) : upL (upL l) = upL l := by simp [upL, hb_]
theorem dc_ (l : List UInt8) : Bt (Bt l) = Bt l := by simp [Bt, fs_]
theorem ft_ (l : List UInt8) : Bt (upL l) = Bt l := by simp [upL, Bt, gr_]
theorem U_ (g : UInt8 → UInt8) (hg : ∀ b, v_ (g b).toNat = v_ b.toNat) (l : List UInt8) : I_ (l.map g) = I_ l := by
 have h1 : He v_ (l.map g) = He v_ l := by
  induction l with
  | nil => rfl
  | cons x r ih =>
   have e : ∀ (y : UInt8) (m : List UInt8), He v_ (y :: m) = (v_ y.toNat && He v_ m) := fun _ _ => rfl;rw [yx, e, e, ih, hg]
 have h2 : (l.map g).isEmpty = l.isEmpty := by cases l <;> rfl
 rw [I_, I_, Eg, Eg, h1, h2, az]
theorem cm_ {s f : List UInt8} (h : xe.find? (fun f => upL f == upL s) = some f) : f ∈ xe := rz h
theorem Zv : ∀ f ∈ xe, qp f = some f ∧ qp (upL f) = some f ∧ f.length ≤ 32 := by decide +kernel
theorem br_ {s c : List UInt8} (h : qp s = some c) : qp c = some c ∧ qp (upL c) = some c ∧ c.length ≤ 32 := by
 unfold qp at h;cases hf : xe.find? (fun f => upL f == upL s) with
 | some f =>
  rw [hf] at h;have : f = c := jc h;subst this;exact Zv f (cm_ hf)
 | none =>
  rw [hf] at h;by_cases hk : I_ s = true
  ·simp only [hk, if_true] at h;have hc : Bt s = c := jc h;subst hc;have hk1 : I_ (Bt s) = true := (U_ De ei_ s).trans hk;have hk2 : I_ (upL (Bt s)) = true := (U_ upB fz_ _).trans hk1;refine ⟨?_, ?_, ?_⟩
   ·unfold qp; rw [Sb, hf]; simp only [hk1, if_true, dc_]
   ·unfold qp; rw [gn_, Sb, hf]; rw [Sb] at hk2; simp only [hk2, if_true, ft_]
   have h3 := hk1;rw [I_, qd] at h3;exact dm h3.2
  simp only [hk] at h; cases h
theorem Un {m : List (List UInt8)} (h : kr m = true) : ∀ c ∈ m, c.length ≤ 32 := fun c hc => (br_ (((x_ m).1 h).1 c hc)).2.2
end
section
open Go.RowKit
theorem co_ {l : List (List UInt8)} (h : ∀ c ∈ l, c.length ≤ 32) : Eh l := fun x hx => Xe x (by have := h x hx; omega)
end
section
open Go.RowKit Go.Lib Go.Sort
theorem fm_ (x : List UInt8) (bp : Nat) (v : Value) (l : List (List UInt8)) (w : World) (hb : w.cell? ⟨bp, 0, none⟩ = some v) (hr : Rd w v l.length (l.map encStr)) (hl : l.length * 16 ≤ 140737488355328) :
  Calls prog 159 #[encStr x, .pointer (some ⟨bp, 0, none⟩)] w fun e w' => e = .returned (.bool (decide (x ∈ l))) ∧ w = w' := by
 have hh := hi_ (Zg v l (mkB x) w hr hl);rw [vz] at hh;obtain ⟨ao, cap, rfl, -⟩ := hr;go_enter func159, ntmps159;go_wp2_with fail;refine hh.out.mono ?_;rintro e w' ⟨rfl, rfl⟩;go_wp2_with fail;go_ret;exact ⟨rfl, rfl⟩
theorem Pf (ao : Option Addr) (cap : Nat) (fv : Value) (w : World) : Calls prog 181 #[.slice ao 0 cap, fv] w fun e w' => e = .returned (.int .i64 (-1)) ∧ w = w' := by
 go_enter func181, ntmps181;go_wp2_with fail;go_loop [8] (fun vk => vk = .int .i64 0) (fun _ => 0)
 case atStart => rfl
 case round =>
  subst hrel;go_wp2_with fail;go_ret;exact ⟨rfl, rfl⟩
theorem Nj (ao : Option Addr) (cap : Nat) (fv : Value) (w : World) : Calls prog 158 #[.slice ao 0 cap, fv] w fun e w' => e = .returned (.slice ao 0 cap) ∧ w = w' := by
 go_enter func158, ntmps158;go_wp2_with fail;refine (Pf ao cap fv w).mono ?_;rintro e w' ⟨rfl, rfl⟩;have hq : ((-1 : Int) == -1) = true := by decide
 go_wp2_with fail;go_ret;exact ⟨rfl, rfl⟩
def id_ (l : List (List UInt8)) (w : World) (e : Ending) (w' : World) : Prop := ∃ v', e = .returned v' ∧ Hid (Rd w' v' l.length (l.map encStr)) ∧ Hid (Below w.heap.size w w')
end
section
open Go.RowKit
set_option maxRecDepth 100000 in
set_option maxHeartbeats 2000000 in
theorem dq_ (n : Nat) (hn : n ≤ 1000) (w : World) :
  Calls prog 180 #[.slice none 0 0, .int .i64 n] w fun e w' => ∃ v, e = .returned v ∧ Hid (Ei w' w.heap.size v []) ∧ Hid (Below w.heap.size w w') := by
 rcases n_ n with h0 | h0
 ·subst h0;go_enter func180, ntmps180;go_wp2_with fail;go_ret;exact ⟨_, rfl, hi_ (Ei.nil _ _), hi_ (ae _ _)⟩
 obtain ⟨i, hi, hz, hsz, hby⟩ : ∃ i, prog.info? 9 = some i ∧ i.zero = some (.string ⟨#[]⟩) ∧ i.size = 1 ∧ i.bytes = 16 := by
  have h := Ke;simp only [Option.map_eq_some_iff] at h;obtain ⟨i, hi, he⟩ := h;exact ⟨i, hi, jk (·.1) he, jk (·.2.1) he, jk (·.2.2) he⟩
 have hrun := fun (ty : TypeId) => Lib.run_append_nil_zeros (P := prog) w 144 3 ty 9 i _ .i64 .i64 underlying144 underlying3 hi hz n h0 (by omega) (by omega) (by rw [hby]; omega);have hge := grownCap_ge w n 0 9;have hle := grownCap_le_maxLen w n 0 9 (by unfold maxLen; omega);have hown := World.ownsRow_made (base := w.heap.size) (e := 9) (size := 1) w.drew (Builtin.zeroCells (Value.string ⟨#[]⟩).cells n ++ Builtin.zeroCells (Value.string ⟨#[]⟩).cells (grownCap w n 0 9 - n)) (grownCap w n 0 9) (ax _) hle (by
  have hzc : ∀ k, (Builtin.zeroCells (Value.string ⟨#[]⟩).cells k).size = k := fun k => by simp [Builtin.zeroCells, Value.cells]
  rw [Array.size_append, hzc, hzc]; omega)
 have hb : Below w.heap.size w (w.drew.alloc (.cells (Builtin.zeroCells (Value.string ⟨#[]⟩).cells n ++ Builtin.zeroCells (Value.string ⟨#[]⟩).cells (grownCap w n 0 9 - n)) 9)) := Below.alloc (show Below w.heap.size w w.drew from ⟨rfl, rfl, rfl, ax _, fun _ _ => rfl⟩) (ax _) _;obtain ⟨W, hW⟩ : ∃ W, W = w.drew.alloc (.cells (Builtin.zeroCells (Value.string ⟨#[]⟩).cells n ++ Builtin.zeroCells (Value.string ⟨#[]⟩).cells (grownCap w n 0 9 - n)) 9) := ⟨_, rfl⟩;rw [← hW] at hown hb;simp only [← hW] at hrun;obtain ⟨G, hG⟩ : ∃ G, G = grownCap w n 0 9 := ⟨_, rfl⟩;rw [← hG] at hge hle hown;simp only [← hG] at hrun;unfold maxLen at hle;clear hG hW;replace hown := hi_ hown;go_enter func180, ntmps180;go_wp2_with (at_builtin; refine Lib.wpList_append_run _ rfl _ _ _ _ rfl _ _ rfl rfl _ _ (hrun _) ?_);go_ret;exact ⟨_, rfl, hi_ hown.out, hi_ hb⟩
theorem Dh {w : World} {ops : Array Oper} {rest : List Oper} {o : Oper} {a : Act} {Q : Exit → Act → World → Prop} (hgd : o.guard = none) (s x : Operand)
  (ho : o.op = .call { callee := .builtin .append, args := #[s, x], argTypes := #[144, 144] }) (B : Nat) (v v2 : Value) (l m : List (List UInt8))
  (hs : a.eval s = v) (hx : a.eval x = v2) (hown : Ei w B v l) (h2 : Rd w v2 m.length (m.map encStr)) (hlen : (l.length + m.length) * 16 ≤ 140737488355328) (hbase : B ≤ w.heap.size)
  (h : ∀ v' w', Ei w' B v' (l ++ m) → w.grownBy w' v.ownBlock → (∀ g, v'.ownBlock = some g → v.ownBlock = some g ∨ w.heap.size ≤ g) → wpList prog ops Q rest (a.put o.dst v') w') : wpList prog ops Q (o :: rest) a w := by
 refine Ch hgd s x 144 ho B 9 _ 1 16 underlying144 Ke rfl (by decide) v v2 l.length m.length (l.map encStr) (m.map encStr) hs hx hown h2 (by simp) (fun y hy => ?_) (by unfold maxLen; omega) hlen hbase ?_
 ·obtain ⟨z, _, rfl⟩ := List.mem_map.1 hy; rfl
 intro v' w' ho' hg' hv';refine h v' w' ?_ hg' hv';unfold Ei;rw [bz, fo];exact ho'
def gv_ (l : List (List UInt8)) (w : World) (e : Ending) (w' : World) : Prop := ∃ v', e = .returned v' ∧ Hid (Ei w' w.heap.size v' l) ∧ Hid (Below w.heap.size w w')
set_option maxRecDepth 100000 in
set_option maxHeartbeats 2000000 in
theorem Yg (b : Nat) (v u : Value) (l m : List (List UInt8)) (w : World) (hb : b < w.heap.size) (c0 : w.cell? ⟨b, 0, none⟩ = some v) (c1 : w.cell? ⟨b, 1, none⟩ = some u) (hr : Rd w v l.length (l.map encStr)) (hu : Rd w u m.length (m.map encStr)) (hl : l.length ≤ 100) (hm : m.length ≤ 100) :
  Calls prog 157 #[.slice (some ⟨b, 0, none⟩) 2 2] w (gv_ (l ++ m) w) := by
 have hr0 := hi_ hr;have hu0 := hi_ hu;obtain ⟨ao, cap, rfl, -⟩ := hr;obtain ⟨ao2, cap2, rfl, -⟩ := hu;have hc0 : ∀ W, Below w.heap.size w W → W.cell? ⟨b, 0, none⟩ = some (.slice ao l.length cap) := fun W hW => (hW.cell (p := ⟨b, 0, none⟩) hb).trans c0;have hc1 : ∀ W, Below w.heap.size w W → W.cell? ⟨b, 1, none⟩ = some (.slice ao2 m.length cap2) := fun W hW => (hW.cell (p := ⟨b, 1, none⟩) hb).trans c1;replace hc0 := hi_ hc0;replace hc1 := hi_ hc1;go_enter func157, ntmps157;go_wp2_with fail;go_loop [3, 11] (fun vs vk => (vk = .int .i64 0 ∧ vs = .int .i64 0) ∨ (vk = .int .i64 1 ∧ vs = .int .i64 l.length) ∨ (vk = .int .i64 2 ∧ vs = .int .i64 ((l.length + m.length : Nat) : Int))) (fun _ vk => 2 - (intOf vk).toNat)
 case atStart => exact .inl ⟨rfl, rfl⟩
 case round =>
  rcases hrel with ⟨rfl, rfl⟩ | ⟨rfl, rfl⟩ | ⟨rfl, rfl⟩
  ·go_wp2_with fail;go_round
   case rel => exact .inr (.inl ⟨rfl, by go_num⟩)
   case measure => decide
  ·go_wp2_with fail;go_round
   case rel => exact .inr (.inr ⟨rfl, by go_num⟩)
   case measure => decide
  go_wp2_with fail;refine (dq_ (l.length + m.length) (by omega) w).mono ?_;rintro e w1 ⟨v1, rfl, o1, b1⟩;go_wp2_with fail;go_loopw [6, 27] (fun vo vk wr => ((vk = .int .i64 0 ∧ Hid (Ei wr w.heap.size vo [])) ∨ (vk = .int .i64 1 ∧ Hid (Ei wr w.heap.size vo l)) ∨ (vk = .int .i64 2 ∧ Hid (Ei wr w.heap.size vo (l ++ m)))) ∧ Hid (Below w.heap.size w wr)) (fun _ vk _ => 2 - (intOf vk).toNat);case atStart => exact ⟨.inl ⟨rfl, o1⟩, b1⟩
  case round =>
   obtain ⟨hrel, hb2⟩ := hrel;have d0 := hc0.out wr hb2.out;have d1 := hc1.out wr hb2.out;have hr2 := hi_ (hr0.out.below hb2.out);have hu2 := hi_ (hu0.out.below hb2.out);have hsz2 := hb2.out.size;rcases hrel with ⟨rfl, ho⟩ | ⟨rfl, ho⟩ | ⟨rfl, ho⟩
   ·go_wp2_with (at_builtin; refine Dh rfl (.tmp 31) (.tmp 32) rfl w.heap.size u6 _ [] l rfl rfl ho.out hr2.out (by simp; omega) hsz2 ?_);intro v4 w4 ho4 hg4 hv4;have hb4 := hi_ (hb2.out.grown hg4 (by omega) (fun k hk => (ho.out.lt k hk).1));replace ho4 := hi_ ho4;clear hg4 hv4;go_wp2_with fail;go_roundw;case rel => exact ⟨.inr (.inl ⟨rfl, by simpa using ho4⟩), hb4⟩
    case measure => decide
   ·go_wp2_with (at_builtin; refine Dh rfl (.tmp 31) (.tmp 32) rfl w.heap.size u6 _ l m rfl rfl ho.out hu2.out (by omega) hsz2 ?_);intro v4 w4 ho4 hg4 hv4;have hb4 := hi_ (hb2.out.grown hg4 (by omega) (fun k hk => (ho.out.lt k hk).1));replace ho4 := hi_ ho4;clear hg4 hv4;go_wp2_with fail;go_roundw;case rel => exact ⟨.inr (.inr ⟨rfl, ho4⟩), hb4⟩
    case measure => decide
   go_wp2_with fail;go_ret;exact ⟨_, rfl, ho, hb2⟩
end
section
open Go.RowKit
def Ed (l : List (List UInt8)) (how : Int) (by_ : List (List UInt8)) : List (List UInt8) := (if how = 0 then [] else if how = 1 then l else l.filter fun x => !decide (x ∈ by_)) ++ (if how = 2 then [] else by_)
def Cw (l : List (List UInt8)) (how : Int) (by_ : List (List UInt8)) : Bool := kr l && (kr by_ && (decide (0 ≤ how) && decide (how < 3)))
def zl (l : List (List UInt8)) (how : Int) (by_ : List (List UInt8)) : Nat := if Cw l how by_ then (if 16 < (ni (Ed l how by_)).length then 7 else 0) else 1
def Ao (l : List (List UInt8)) (how : Int) (by_ : List (List UInt8)) : List (List UInt8) := if Cw l how by_ then (if 16 < (ni (Ed l how by_)).length then [] else ni (Ed l how by_)) else []
def ih_ (l : List (List UInt8)) (how : Int) (by_ : List (List UInt8)) (w : World) (e : Ending) (w' : World) : Prop := ∃ v', e = .returned (.tuple #[v', .int .i64 (zl l how by_ : Int)]) ∧ Hid (Rd w' v' (Ao l how by_).length ((Ao l how by_).map encStr)) ∧ Hid (Below w.heap.size w w')
theorem Bo {l : List (List UInt8)} (h : kr l = true) : l.length ≤ 16 := ((x_ l).1 h).2.1
theorem ad_ {l : List (List UInt8)} (h : kr l = true) : ni l = l := Dy uz l ((x_ l).1 h).2.2
theorem Su {l : List (List UInt8)} (h : kr l = true) (p : List UInt8 → Bool) : ni (l.filter p) = l.filter p := Dy uz _ (((x_ l).1 h).2.2.sublist Df)
theorem qa_ (l by_ : List (List UInt8)) : Ed l 2 by_ = l.filter (fun x => !decide (x ∈ by_)) := by
 rw [Ed]; simp
theorem Ym {l by_ : List (List UInt8)} {how : Int} (h1 : kr l = true) (h2 : kr by_ = true) (h3 : 0 ≤ how) (h4 : how < 3) : Cw l how by_ = true := by
 rw [Cw, h1, h2, b_ h3, b_ h4]; rfl
end
section
open Go.RowKit
theorem Ou (w : World) : Rd w (.slice none 0 0) (ni ([] : List (List UInt8))).length ((ni ([] : List (List UInt8))).map encStr) := ⟨none, 0, rfl, .inl rfl⟩
end
section
open Go.RowKit
attribute [local go_sem ↓] Go.wp_at_zero Go.wp_at_succ
def Bb (rb : Nat) (q : Rq) (y : RqV) : Th := df rb (fq q y).toArray 41
theorem Yr {W : World} {wb : Nat} {k : WkV} {m : Ml} {q : Rq} {y : RqV} {o : Oc} {t : TypeId} (h : W.heap[wb]? = some (.cells (l9 k m q y o).toArray t (0, 0))) (j : Nat) (v : Value) (hj : (fq q y)[j]? = some v) : W.cell? ⟨wb, 6 + j, none⟩ = some v := by
 rw [bc_ h (6 + j)];have hl := (jl.1 hj).1;have e : l9 k m q y o = (l9 k m q y o).take 6 ++ (fq q y ++ (l9 k m q y o).drop 23) := rfl;have h6 : ((l9 k m q y o).take 6).length = 6 := rfl;rw [ai, e, lu (by rw [h6]; omega), h6, Nk, ko hl];exact hj
theorem Sr (q : Rq) (y : RqV) : ∀ v ∈ fq q y, v.oneCell' = true := fun v hv => by
 simp only [fq, d_, qb, or_false] at hv;rcases hv with rfl | rfl | rfl | rfl | rfl | rfl | rfl | rfl | rfl | rfl | rfl | rfl | rfl | rfl | rfl | rfl | rfl <;> rfl
def rqZ : List Value := [.int .i64 0, .int .u64 0, .int .u64 0, .int .i64 0, .int .u64 0, .int .u64 0, .string ⟨#[]⟩, .string ⟨#[]⟩, .int .u64 0, .slice none 0 0, .slice none 0 0, .int .i64 0, .bool false, .int .u64 0, .string ⟨#[]⟩, .int .u64 0, .int .u64 0]
theorem Ci {wb : Nat} {k : WkV} {m : Ml} {q : Rq} {y : RqV} {o : Oc} (t : Th) : (ik wb k m q y o ++ [t])[k.bs.length + 7]? = some t := by
 unfold ik zk qi;rw [lu (by simp)];simp
structure Tv (q : Rq) : Prop where
 fl : q.flags.length ≤ 100000
 sz : Eh q.flags
 ul : q.h_.length ≤ 100000
def Ux (b : Bx) (q : Rq) : Lt := ⟨b.next, q.flags, b.high + 1, q.hash, q.size⟩
def appended (b : Bx) (q : Rq) : Bx := { b with next := b.next + 1, high := b.high + 1, letters := b.letters ++ [Ux b q] }
def lq (m : Ml) (q : Rq) (o : Oc) : Int × Ml × Oc :=
 match m.boxes.findIdx? (fun x => x.name.toList == q.box.toList) with
 | none => (6, m, o)
 | some i => match m.boxes[i]? with
  | none => (6, m, o)
  | some b =>
   if kr q.flags = false ∨ q.hash.size ≠ 32 ∨ 4096 < q.size then (1, m, o)
   else if q.a_ ≠ m.a_ then (15, m, o)
   else if 32 ≤ b.letters.length then (7, m, o)
   else if 4294967295 < b.next ∨ 9223372036854775807 ≤ b.high then (13, m, o)
   else (0, qj m i (appended b q), { o with ag := b.ag, h_ := [b.next] })
theorem xk (x : BxV) : x.b.letters.length = x.rows.length := az ..
theorem Qg {wb : Nat} {k : WkV} {m : Ml} {q : Rq} {y : RqV} {o : Oc} {i : Nat} (hi : i < k.bs.length) (t u : Th) : ((ik wb k m q y o ++ [t]).set (i + 7) u)[k.bs.length + 7]? = some t := by
 rw [List.getElem?_set_ne (by omega), Ci]
theorem wm.bump {k : WkV} {m : Ml} {i : Nat} (h : wm k m) (hi : i < k.bs.length) (x1 : BxV) (hx : Hg k.S x1.rows) : ∃ k1 m1, Kh k i x1 = k1 ∧ qj m i x1.b = m1 ∧ wm k1 m1 ∧ k1.ab = k.ab ∧ i < k1.bs.length ∧ ∀ h : i < k1.bs.length, k1.bs[i] = x1 :=
 ⟨_, _, rfl, rfl, h.set x1 hx, rfl, by show i < (k.bs.set i x1).length; rw [gq]; exact hi, fun h => Cc ..⟩
def ApS (g i rb : Nat) (x : BxV) (q : Rq) (y : RqV) (w' : World) : Prop := w'.cell? ⟨g, i * 5 + 2, none⟩ = some (.int .u64 x.next) ∧ w'.cell? ⟨g, i * 5 + 3, none⟩ = some (.int .u64 x.high) ∧ w'.cell? ⟨g, i * 5 + 4, none⟩ = some (.slice x.a x.rows.length x.c) ∧ w'.cell? ⟨rb, 10, none⟩ = some (.slice y.af q.flags.length y.cf) ∧ w'.cell? ⟨rb, 14, none⟩ = some (.string q.hash) ∧ w'.cell? ⟨rb, 15, none⟩ = some (.int .u64 q.size)
theorem apS {W0 W : World} {L : List Th} {k : WkV} {q : Rq} {y : RqV} {g i rb : Nat} (hz : Zoo W0 W L) (h3 : L[3]? = some (bxT.row (.slice k.ab k.bs.length k.cb) k.bs)) (hg : k.ab = some ⟨g, 0, none⟩) (hi : i < k.bs.length) (x : BxV) (hx : k.bs[i] = x) (j : Nat) (hr : L[j]? = some (Bb rb q y)) : ApS g i rb x q y W := by
 obtain ⟨g', hg', -, hb, -⟩ := ug hz h3 hi;rw [hg] at hg';injection hg' with hg';injection hg' with hg';subst hg' hx;obtain ⟨h, -⟩ := hz.box j hr;exact ⟨hb.c2, hb.c3, hb.c4, bc_ h 10, bc_ h 14, bc_ h 15⟩
theorem bxS {W0 W : World} {L : List Th} {k : WkV} {g i : Nat} (hz : Zoo W0 W L) (h3 : L[3]? = some (bxT.row (.slice k.ab k.bs.length k.cb) k.bs)) (hg : k.ab = some ⟨g, 0, none⟩) (hi : i < k.bs.length) (x : BxV) (hx : k.bs[i] = x) : gj_ W g i x ∧ ∀ j, W.frozen? ⟨g, j, none⟩ = false := by
 obtain ⟨g', hg', -, hb, hf⟩ := ug hz h3 hi;rw [hg] at hg';injection hg' with hg';injection hg' with hg';subst hg' hx;exact ⟨hb, hf⟩
def Gl (x : BxV) (q : Rq) (a : Option Addr) (c : Nat) : LtV := ⟨⟨x.next, q.flags, x.high, q.hash, q.size⟩, a, c⟩
set_option maxRecDepth 100000 in
set_option maxHeartbeats 8000000 in
theorem Yo {W0 W : World} {wb : Nat} {k : WkV} {m : Ml} {q : Rq} {y : RqV} {o : Oc} (hz : Zoo W0 W (ik wb k m q y o)) (hk : wm k m) (hl : m.boxes.length ≤ 1000) (hin : Ac W0 q y) (hq : Tv q) :
  Calls prog 39 #[.pointer (some ⟨wb, 0, none⟩)] W (mr W0 wb q y (lq m q o)) := by
 have hat := hi_ (fun (W' : World) (h : Zoo W0 W' (ik wb k m q y o)) => Nu h hk hl q.box);obtain ⟨hbx, -⟩ := hz.drew.box 0 rfl;replace hbx := hi_ hbx;replace hk := hi_ hk;replace hz := hi_ hz.drew;go_enter func39, ntmps39;go_wp2_with fail;go_cut [3, 4] (fun v3 v4 wx => ∃ rb, v3 = .int .i64 (atM q.box m) ∧ v4 = .pointer (some ⟨rb, 0, none⟩) ∧ Hid (Zoo W0 wx (ik wb k m q y o ++ [Bb rb q y])));case first =>
  refine wr_ (fun w' => Hid (w'.heap[wb]? = some (.cells (l9 k m q y o).toArray 80 (0, 0)))) 16 1 hbx fun hok hS0 => ?_;clear hbx;refine av hok 0 ?_;refine av hok 1 ?_;refine av hok 2 ?_;refine oq (i := 3) (v := ?tv51) hok rfl (by kernel_rfl) (fun _ _ _ h => h) (Or.inl ⟨by rfl, ?ty51⟩) (by assumption) ?tr51;case ty51 =>
   intro w hSw;obtain ⟨k0, k1, k2, k3, k4, k5⟩ := bx6 hSw.out;clear hSw;go_simp
   (try with_reducible rfl)
  refine av hok 4 ?_;refine av hok 5 ?_;refine av hok 6 ?_;refine av hok 7 ?_;refine oq (i := 8) (v := ?tv52) hok rfl (by kernel_rfl) (fun _ _ _ h => h) (Or.inl ⟨by rfl, ?ty52⟩) (by assumption) ?tr52;case ty52 =>
   intro w hSw;have k12 : w.cell? ⟨wb, 12, none⟩ = some (.string q.box) := bc_ hSw.out 12;clear hSw;go_simp
   (try with_reducible rfl)
  refine av hok 10 ?_;refine av hok 11 ?_;refine av hok 12 ?_;refine oq (i := 13) (v := .agg (fq q y).toArray) hok rfl (by kernel_rfl) (fun _ _ _ h => h) (Af 41 (.tmp 18) rfl wb 6 (fq q y) (by rfl) isAgg41 sizeOf41 rfl (fun W hS => Yr hS.out)) (by assumption) ?_;try simp only [nrm_, Act.put]
  refine Aj (i := 9) (k := 14) rfl rfl (by kernel_rfl) (fun K hK => ?_) (fun K hK => ?_)
  ·go_simp;refine (hat.out _ hz.out).mono ?_;rintro e w3 ⟨rfl, hb3⟩;dsimp only;have hz3 := hz.out.below hb3.out;obtain ⟨hbx, -⟩ := hz3.box 0 rfl;refine hK _ _ (hi_ hbx) ?_;replace hbx := hi_ hbx;clear hK K;try simp only [nrm_, Act.put]
   refine g_ 14 fun K hK => ?_;go_simp;have hz4 := hz3.dz (rqZ.toArray) 41;unfold rqZ at hz4;have hS4 := hi_ (hz4.box 1 rfl).1;refine hK _ _ hS4 ?_;clear hK K;refine av hok 15 ?_;refine kw ?_;clear hat hz hok hS0 hb3 hbx hz3 hS4;have hs4 := hz4.m_ 0 rfl;refine ru rfl 41 (.tmp 4) (.tmp 19) rfl w3.heap.size 0 (fq q y) rfl rfl sizeOf41 (Sr q y) hs4.1 hs4.2 ?_;have hz5 := hi_ (Nt (hz4.mq 0 rfl (fq q y) rfl));clear hs4 hz4;go_wp2_with fail;go_meet;case rel => exact ⟨_, rfl, rfl, hz5⟩
  go_simp;have hz4 := hz.out.dz (rqZ.toArray) 41;unfold rqZ at hz4;have hS4 := hi_ (hz4.box 1 rfl).1;refine hK _ _ hS4 ?_;clear hK K;try simp only [nrm_, Act.put]
  refine g_ 9 fun K hK => ?_;go_simp;refine (hat.out _ hz4.tail).mono ?_;rintro e w3 ⟨rfl, hb3⟩;dsimp only;have hz5 := hz4.below hb3.out;have hS5 := hi_ (hz5.box 1 rfl).1;refine hK _ _ hS5 ?_;clear hK K;refine av hok 15 ?_;refine kw ?_;have hs4 := hz5.m_ 0 rfl;refine ru rfl 41 (.tmp 4) (.tmp 19) rfl W.drew.heap.size 0 (fq q y) rfl rfl sizeOf41 (Sr q y) hs4.1 hs4.2 ?_;have hz6 := hi_ (Nt (hz5.mq 0 rfl (fq q y) rfl));clear hat hz hok hS0 hb3 hz4 hS4 hS5 hs4 hz5;go_wp2_with fail;go_meet;case rel => exact ⟨_, rfl, rfl, hz6⟩
 case rest =>
  clear hat hz hbx;obtain ⟨rb, rfl, rfl, hz⟩ := hcut;unfold atM;rcases mi (fun x : Bx => x.name.toList == q.box.toList) m.boxes with ⟨e1, e2⟩ | ⟨i, hi, e1, e2⟩
  ·rw [e2];have hr : Hid (lq m q o = (6, m, o)) := hi_ (by unfold lq; rw [e1]);replace hz := hi_ (Aa hz.out);clear e2 e1;go_wp2_with fail;go_ret;exact mr.of hr.out ⟨k, rfl, hk, hz⟩
  rw [e2];have he := hi_ e1;have hil : i < k.bs.length := by rw [hk.out.len]; exact hi
  have hgm := hi_ (hk.out.get hil);have hi0 : (0 : Int) ≤ (i : Int) := by omega
  have hil2 : (i : Int) < (k.bs.length : Int) := by omega
  obtain ⟨hbx, -⟩ := hz.out.box 0 rfl;have k0 : wc.cell? ⟨wb, 0, none⟩ = some (.slice k.ab k.bs.length k.cb) := bc_ hbx 0;have k5 : wc.cell? ⟨wb, 5, none⟩ = some (.int .u64 m.a_) := bc_ hbx 5;obtain ⟨g, hg, hglt, hbox, hfr⟩ := ug hz.out rfl hil;rw [hg] at k0;obtain ⟨hrbx, -⟩ := hz.out.box _ (Ci _);have r10 : wc.cell? ⟨rb, 10, none⟩ = some (.slice y.af q.flags.length y.cf) := bc_ hrbx 10;have hright := hi_ (Ip _ q.flags wc (jf hin.2 hz.out.bel) (by have := hq.fl; omega) hq.sz);clear e1 e2;replace hg := hi_ hg;clear hbx hrbx hbox hfr;go_wp2_with fail;refine hright.out.mono ?_;rintro e w4 ⟨rfl, hb4⟩;have hz4 := hz.out.below hb4.out;clear k0 k5 r10;obtain ⟨hbx, -⟩ := hz4.box 0 rfl;have k0 : w4.cell? ⟨wb, 0, none⟩ = some (.slice k.ab k.bs.length k.cb) := bc_ hbx 0;have k5 : w4.cell? ⟨wb, 5, none⟩ = some (.int .u64 m.a_) := bc_ hbx 5;obtain ⟨g', hg', hglt, hbox, hfr⟩ := ug hz4 rfl hil;rw [hg.out] at hg' k0;injection hg' with hg';injection hg' with hg';subst hg';obtain ⟨hrbx, -⟩ := hz4.box _ (Ci _);have r10 : w4.cell? ⟨rb, 10, none⟩ = some (.slice y.af q.flags.length y.cf) := bc_ hrbx 10;have r14 : w4.cell? ⟨rb, 14, none⟩ = some (.string q.hash) := bc_ hrbx 14;have r15 : w4.cell? ⟨rb, 15, none⟩ = some (.int .u64 q.size) := bc_ hrbx 15;have r16 : w4.cell? ⟨rb, 16, none⟩ = some (.int .u64 q.a_) := bc_ hrbx 16;obtain ⟨b0, b1, b2, b3, b4⟩ := hbox;clear hright hz hb4;cases hrb : kr q.flags with
  | false =>
   have hr : Hid (lq m q o = (1, m, o)) := hi_ (by unfold lq; rw [he.out]; dsimp only; rw [hgm.out]; dsimp only; rw [dh (.inl hrb)]);replace hz4 := hi_ (Aa hz4);clear hbx hrbx hg he;go_wp2_with fail;go_ret;exact mr.of hr.out ⟨k, rfl, hk, hz4⟩
  | true =>
   cases h32 : ((q.hash.size : Int) != 32) with
   | true =>
    have hr : Hid (lq m q o = (1, m, o)) := hi_ (by unfold lq; rw [he.out]; dsimp only; rw [hgm.out]; dsimp only; rw [dh (.inr (.inl (fun h => by rw [h] at h32; simp at h32)))]);replace hz4 := hi_ (Aa hz4);clear hbx hrbx hg he;go_wp2_with fail;go_ret;exact mr.of hr.out ⟨k, rfl, hk, hz4⟩
   | false =>
    have h32' : q.hash.size = 32 := (by simp at h32; omega);by_cases hsz : 4096 < q.size
    ·have hsz2 : (4096 : Int) < (q.size : Int) := (by omega);have hr : Hid (lq m q o = (1, m, o)) := hi_ (by unfold lq; rw [he.out]; dsimp only; rw [hgm.out]; dsimp only; rw [dh (.inr (.inr hsz))]);replace hz4 := hi_ (Aa hz4);clear hbx hrbx hg he;go_wp2_with fail;go_ret;exact mr.of hr.out ⟨k, rfl, hk, hz4⟩
    have hsz2 : ¬ (4096 : Int) < (q.size : Int) := (by omega);have hgood : ¬ (kr q.flags = false ∨ q.hash.size ≠ 32 ∨ 4096 < q.size) := (by rw [hrb, h32']; simp; omega);replace hgood := hi_ hgood;replace h32' := hi_ h32';cases hsw : ((q.a_ : Int) != (m.a_ : Int)) with
    | true =>
     have hsw2 : q.a_ ≠ m.a_ := fun h => (by rw [h] at hsw; simp at hsw);have hr : Hid (lq m q o = (15, m, o)) := hi_ (by unfold lq; rw [he.out]; dsimp only; rw [hgm.out]; dsimp only; rw [bq hgood.out, dh hsw2]);replace hz4 := hi_ (Aa hz4);clear hbx hrbx hg he hsw2;go_wp2_with fail;go_quiet (fail);go_wp2_with fail;go_ret;exact mr.of hr.out ⟨k, rfl, hk, hi_ (hz4.out.below (qw (ae _ _) nq))⟩
    | false =>
     have hsw2 : q.a_ = m.a_ := (by simp at hsw; omega);replace hsw2 := hi_ hsw2;obtain ⟨x, hx⟩ : ∃ x, k.bs[i] = x := ⟨_, rfl⟩;rw [hx] at b0 b1 b2 b3 b4 hgm;replace hx := hi_ hx;by_cases hln : 32 ≤ x.rows.length
     ·have hln2 : (32 : Int) ≤ (x.rows.length : Int) := (by omega);have hr : Hid (lq m q o = (7, m, o)) := hi_ (by unfold lq; rw [he.out]; dsimp only; rw [hgm.out]; dsimp only; rw [bq hgood.out, bq (fun h => h hsw2.out)]; rw [dh (by rw [xk]; exact hln)]);replace hz4 := hi_ (Aa hz4);clear hbx hrbx hg he;go_wp2_with fail;go_quiet (fail);go_wp2_with fail;go_ret;exact mr.of hr.out ⟨k, rfl, hk, hi_ (hz4.out.below (qw (ae _ _) nq))⟩
     have hln2 : ¬ (32 : Int) ≤ (x.rows.length : Int) := (by omega);by_cases hnx : 4294967295 < x.next
     ·have hnx2 : (4294967295 : Int) < (x.next : Int) := (by omega);have hr : Hid (lq m q o = (13, m, o)) := hi_ (by unfold lq; rw [he.out]; dsimp only; rw [hgm.out]; dsimp only; rw [bq hgood.out, bq (fun h => h hsw2.out)]; rw [bq (by rw [xk]; exact hln), dh (.inl hnx)]);replace hz4 := hi_ (Aa hz4);clear hbx hrbx hg he;go_wp2_with fail;go_quiet (fail);go_wp2_with fail;go_ret;exact mr.of hr.out ⟨k, rfl, hk, hi_ (hz4.out.below (qw (ae _ _) nq))⟩
     have hnx2 : ¬ (4294967295 : Int) < (x.next : Int) := (by omega);by_cases hhi : 9223372036854775807 ≤ x.high
     ·have hhi2 : (9223372036854775807 : Int) ≤ (x.high : Int) := (by omega);have hr : Hid (lq m q o = (13, m, o)) := hi_ (by unfold lq; rw [he.out]; dsimp only; rw [hgm.out]; dsimp only; rw [bq hgood.out, bq (fun h => h hsw2.out)]; rw [bq (by rw [xk]; exact hln), dh (.inr hhi)]);replace hz4 := hi_ (Aa hz4);clear hbx hrbx hg he;go_wp2_with fail;go_quiet (fail);go_wp2_with fail;go_ret;exact mr.of hr.out ⟨k, rfl, hk, hi_ (hz4.out.below (qw (ae _ _) nq))⟩
     have hhi2 : decide ((9223372036854775807 : Int) ≤ (x.high : Int)) = false := aj (by omega);have hr : Hid (lq m q o = (0, qj m i (appended x.b q), { o with ag := x.ag, h_ := [x.next] })) := hi_ (by unfold lq; rw [he.out]; dsimp only; rw [hgm.out]; dsimp only; rw [bq hgood.out, bq (fun h => h hsw2.out), bq (by rw [xk]; exact hln), bq (fun h => h.elim hnx hhi)]; rfl);have hb1 : x.high + 1 < 18446744073709551616 := (by omega);have hnxH := hi_ (Nat.le_of_not_lt hnx);have hf3 := hfr (i * 5 + 3);have hzs := fun nq => Hr hil { x with high := x.high + 1 } (hz4.below (qw (ae _ _) nq)) (by rw [hx.out]) (by rw [hx.out]; rfl) hg.out 3 (by decide) (.int .u64 ((x.high : Int) + 1)) (by rw [hx.out]; rfl);replace hzs := hi_ hzs;replace hfr := hi_ hfr;replace hz4 := hi_ hz4;clear hbx hrbx he hnx hhi hln;go_wp2_with fail;go_quiet (fail);go_wp2_with fail;have hz5 := hi_ (hzs.out nq);clear hzs b0 b1 b2 b3 b4 r10 r14 r15 r16 k0 k5 hf3 hfr hz4;generalize ((w4.drewN nq).setCell ⟨g, i * 5 + 3, none⟩ (.int .u64 ((x.high : Int) + 1))) = W5 at hz5 ⊢;have hxm : x ∈ k.bs := (by rw [← hx.out]; exact bg hil);have hxl : x.rows.length < 32 := (by omega);obtain ⟨x1, hx1e⟩ : ∃ x1 : BxV, { x with high := x.high + 1 } = x1 := ⟨_, rfl⟩;obtain ⟨k1, m1, hk1, hm1, hok1, hg1, hil1, hx1⟩ := hk.out.bump hil x1 (by rw [← hx1e]; exact hk.out.2 x hxm);rw [hx1e, hk1, hm1] at hz5;rw [hg.out] at hg1;replace hx1 := hx1 hil1;replace hok1 := hi_ hok1;replace hg1 := hi_ hg1;replace hx1 := hi_ hx1;replace hk1 := hi_ hk1;replace hm1 := hi_ hm1;have hxl1 : x1.rows.length < 32 := (by rw [← hx1e]; exact hxl);replace hx1e := hi_ hx1e;have hz5d := hi_ hz5.out.drew;have hS5 := apS hz5d.out rfl hg1.out hil1 x1 hx1.out _ (Ci _);obtain ⟨s2, s3, s4, s10, s14, s15⟩ := hS5;have hcl := hi_ (Ih (Cq.rd (jf hin.2 hz5d.out.bel)) hq.fl);clear hz5 hxm hln2 hnx2 hhi2 hb1;refine wr_ (fun w' => w'.cell? ⟨g, i * 5 + 2, none⟩ = some (.int .u64 x1.next) ∧ w'.cell? ⟨g, i * 5 + 3, none⟩ = some (.int .u64 x1.high) ∧ w'.cell? ⟨g, i * 5 + 4, none⟩ = some (.slice x1.a x1.rows.length x1.c) ∧ w'.cell? ⟨rb, 10, none⟩ = some (.slice y.af q.flags.length y.cf) ∧ w'.cell? ⟨rb, 14, none⟩ = some (.string q.hash) ∧ w'.cell? ⟨rb, 15, none⟩ = some (.int .u64 q.size)) 23 3 ⟨s2, s3, s4, s10, s14, s15⟩ fun hok hS0 => ?_;clear s2 s3 s4 s10 s14 s15;refine av hok 0 ?_;refine av hok 1 ?_;refine av hok 2 ?_;refine av hok 3 ?_;refine av hok 4 ?_;refine av hok 5 ?_;refine av hok 6 ?_;refine av hok 7 ?_;refine av hok 8 ?_;refine av hok 9 ?_;refine av hok 10 ?_;refine av hok 12 ?_;refine av hok 13 ?_;refine av hok 14 ?_;refine av hok 15 ?_;refine av hok 16 ?_;refine av hok 17 ?_;refine av hok 18 ?_;refine av hok 19 ?_;refine g_ 11 fun K hK => ?_;go_simp;refine hcl.out.mono ?_;rintro e w6 ⟨v6, rfl, ho6, hb6, hf6⟩;dsimp only;obtain ⟨a6, c6, hv6⟩ := ho6.out.len;have hz6 := Wy hz5d.out hb6.out (Cq.Lg ho6.out) hf6.out;subst hv6;refine hK _ _ (apS (k := Jc k1 _) hz6 rfl hg1.out hil1 x1 hx1.out _ (Ci _)) ?_;clear hK K;have hS6 := apS (k := Jc k1 _) hz6 rfl hg1.out hil1 x1 hx1.out _ (Ci _);replace hS6 : Hid (ApS g i rb x1 q y w6) := hi_ hS6;replace hz6 := hi_ hz6;refine av hok 20 ?_;refine g_ 21 fun K hK => ?_;go_simp;have hz7 := hz6.out.alloc (.cells (ltT.enc (Gl x1 q a6 c6)).toArray 50);have hS7 := apS (k := Jc k1 _) hz7 rfl hg1.out hil1 x1 hx1.out _ (Ci _);refine hK _ _ hS7 ?_;clear hK K;replace hS7 : Hid (ApS g i rb x1 q y (w6.alloc (.cells (ltT.enc (Gl x1 q a6 c6)).toArray 50))) := hi_ hS7;try simp only [nrm_, Act.put]
     refine g_ 22 fun K hK => ?_;have hown1 := RT.Own.one ltT w6 (Gl x1 q a6 c6) w6.heap.size rfl;obtain ⟨F, ⟨ho, hF⟩, -, hact⟩ := hz7.act (i + 7) (ltT.row x1.v x1.rows) (by rw [← hx1.out]; exact Ua (k := Jc k1 _) i hil1);refine ltT.jv rfl (.tmp 85) (.tmp 102) rfl _ _ x1.rows [Gl x1 q a6 c6] rfl rfl ho hown1.rd (by rw [bi]; omega) ?_;intro v8 w8 ho8 hg8 hat8;have hz8 := hact (ltT.row v8 (x1.rows ++ [Gl x1 q a6 c6])) (fun k => v8.ownBlock = some k) w8 ⟨ho8, fun _ => j6⟩ (iy hF hg8 hat8);obtain ⟨a8, c8, hv8⟩ := ho8.len;subst hv8;have hS8 := apS (k := Jc k1 _) hz8 rfl hg1.out hil1 x1 hx1.out _ (Qg (k := Jc k1 _) hil1 _ _);refine hK _ _ hS8 ?_;clear hK K;refine kw ?_;obtain ⟨-, -, s4, -⟩ := hS8;obtain ⟨g', hg', -, -, hfr8⟩ := ug (k := Jc k1 (.slice a6 q.flags.length c6, q.flags)) hz8 rfl hil1;obtain rfl : g = g' := (by have h := hg1.out.symm.trans hg'; injection h with h; injection h);have f4 := hfr8 (i * 5 + 4);obtain ⟨x2, hx2e⟩ : ∃ x2 : BxV, { x1 with rows := x1.rows ++ [Gl x1 q a6 c6], a := a8, c := c8 } = x2 := ⟨_, rfl⟩;have hz9 := Gd (k := Jc k1 (.slice a6 q.flags.length c6, q.flags)) hil1 x2 (by rw [← hx2e]; exact hz8) hg1.out 4 (by decide) (.slice a8 (x1.rows ++ [Gl x1 q a6 c6]).length c8) (by
      rw [← hx2e];show _ = (bxT.enc (k1.bs[i]'hil1)).set 4 _;rw [hx1.out];rfl)
     have hx1m : x1 ∈ k1.bs := (by rw [← hx1.out]; exact bg hil1);obtain ⟨k2, m2, hk2, hm2, hok2, hg2, hil2', hx2⟩ := (wm.add (p := (.slice a6 q.flags.length c6, q.flags)) hok1.out).bump (show i < (Jc k1 (.slice a6 q.flags.length c6, q.flags)).bs.length from hil1) x2 (by
      rw [← hx2e];intro z hz;rcases fe.1 hz with h | h
      ·exact jh _ (hok1.out.2 x1 hx1m z h)
      simp only [dx] at h;subst h;exact wu ..)
     rw [hk2, hm2] at hz9;generalize (x1.rows ++ [Gl x1 q a6 c6]).length = n8 at *;replace hz9 := hi_ hz9;replace hg2 := hi_ (hg2.trans hg1.out);replace hx2 := hi_ (hx2 hil2');replace hk2 := hi_ hk2;replace hm2 := hi_ hm2;replace hok2 := hi_ hok2;replace hx2e := hi_ hx2e;clear hz8 hfr8 hg' hact ho8 hg8 hat8 ho hF hown1 hz7 hS7 hz6 hS6 hcl hz5d hok hS0 hx1m ho6 hb6 hf6;go_wp2_with fail;generalize w8.setCell ⟨g, i * 5 + 4, none⟩ (.slice a8 n8 c8) = W9 at hz9 ⊢;go_cut [] (fun wx => ∃ a c, Hid (Zoo W0 wx (ik wb { k2 with aU := a, cU := c } m2 q y { o with ag := x2.ag, h_ := [x2.next] } ++ [Bb rb q y])));case first =>
      have hz9d := hi_ hz9.out.drew;obtain ⟨g', hg', -, hb9, -⟩ := ug hz9d.out rfl hil2';obtain rfl : g = g' := (by have h := hg2.out.symm.trans hg'; injection h with h; injection h);rw [hx2.out] at hb9;have c1 := hb9.c1;have c2 := hb9.c2;clear hb9 hg' f4 s4;refine wr_ (fun w' => w'.cell? ⟨g, i * 5 + 1, none⟩ = some (.int .u64 x2.ag) ∧ w'.cell? ⟨g, i * 5 + 2, none⟩ = some (.int .u64 x2.next)) 15 4 ⟨c1, c2⟩ fun hok hS0 => ?_;generalize W9.drew = Wd at *;refine av hok 0 ?_;refine av hok 1 ?_;refine av hok 2 ?_;refine av hok 3 ?_;refine av hok 4 ?_;refine av hok 5 ?_;refine av hok 6 ?_;refine av hok 7 ?_;refine av hok 8 ?_;refine av hok 9 ?_;refine av hok 11 ?_;refine av hok 12 ?_;refine av hok 13 ?_;refine Aj (i := 10) (k := 14) rfl rfl (by kernel_rfl) (fun K hK => ?_) (fun K hK => ?_)
      ·go_simp;have hzA : Zoo W0 (Wd.alloc (.cells #[.int .u64 x2.next] 23)) (ky.row (.slice (some ⟨Wd.heap.size, 0, none⟩) [x2.next].length 1) [x2.next] :: (ik wb k2 m2 q y o ++ [Bb rb q y])) := hz9d.out.newRow (R := ky) ((ae _ _).alloc (ax _) (.cells (ky.enc x2.next).toArray 23)) (RT.Own.one ky Wd x2.next _ rfl) (fun g hg => yw (jc (show some Wd.heap.size = some g from hg)));refine hK _ _ ⟨lg _ c1, lg _ c2⟩ ?_;clear hK K;try simp only [nrm_, Act.put]
       obtain ⟨hbA, -⟩ := hzA.box 1 rfl;have w25 : (Wd.alloc (.cells #[.int .u64 x2.next] 23)).cell? ⟨wb, 25, none⟩ = some (.int .u64 o.ag) := bc_ hbA 25;have f25 := bf_ hbA 25;have hzB : Zoo W0 _ (ky.row (.slice (some ⟨Wd.heap.size, 0, none⟩) [x2.next].length 1) [x2.next] :: (ik wb k2 m2 q y { o with ag := x2.ag } ++ [Bb rb q y])) := hzA.il 1 rfl 25 (.int .u64 x2.ag);generalize hWA : (Wd.alloc (.cells #[.int .u64 x2.next] 23)) = WA at *;replace hWA := hi_ hWA;refine g_ 14 fun K hK => ?_;go_simp;have hbB := (bxS hzB.tail rfl hg2.out hil2' x2 hx2.out).1;refine hK _ _ ⟨hbB.c1, hbB.c2⟩ ?_;clear hK K;refine kw ?_;obtain ⟨hbC, -⟩ := hzB.box 1 rfl;have w26 : (WA.setCell ⟨wb, 25, none⟩ (.int .u64 x2.ag)).cell? ⟨wb, 26, none⟩ = some (.slice k2.aU o.h_.length k2.cU) := bc_ hbC 26;have f26 := bf_ hbC 26;have hzC := Ra hzB;generalize hWB : WA.setCell ⟨wb, 25, none⟩ (.int .u64 x2.ag) = WB at *;replace hWB := hi_ hWB;replace hzC := hi_ hzC;clear hzA hzB hbA hbB hbC c1 c2 w25 f25 hz9d hz9 hok hS0;go_wp2_with fail;go_meet;case rel => exact ⟨_, _, hzC⟩
      go_simp;obtain ⟨hbA, -⟩ := hz9d.out.box 0 rfl;have w25 : Wd.cell? ⟨wb, 25, none⟩ = some (.int .u64 o.ag) := bc_ hbA 25;have f25 := bf_ hbA 25;go_simp;have hzA : Zoo W0 (Wd.setCell ⟨wb, 25, none⟩ (.int .u64 x2.ag)) (ik wb k2 m2 q y { o with ag := x2.ag } ++ [Bb rb q y]) := hz9d.out.il 0 rfl 25 (.int .u64 x2.ag);have hbB := (bxS hzA rfl hg2.out hil2' x2 hx2.out).1;refine hK _ _ ⟨hbB.c1, hbB.c2⟩ ?_;clear hK K;try simp only [nrm_, Act.put]
      generalize hWA : Wd.setCell ⟨wb, 25, none⟩ (.int .u64 x2.ag) = WA at *;replace hWA := hi_ hWA;refine g_ 10 fun K hK => ?_;go_simp;have hzB : Zoo W0 (WA.alloc (.cells #[.int .u64 x2.next] 23)) (ky.row (.slice (some ⟨WA.heap.size, 0, none⟩) [x2.next].length 1) [x2.next] :: (ik wb k2 m2 q y { o with ag := x2.ag } ++ [Bb rb q y])) := hzA.newRow (R := ky) ((ae _ _).alloc (ax _) (.cells (ky.enc x2.next).toArray 23)) (RT.Own.one ky WA x2.next _ rfl) (fun g hg => yw (jc (show some WA.heap.size = some g from hg)));refine hK _ _ ⟨lg _ hbB.c1, lg _ hbB.c2⟩ ?_;clear hK K;refine kw ?_;obtain ⟨hbC, -⟩ := hzB.box 1 rfl;have hzC := Ra hzB;generalize hWB : WA.alloc (.cells #[.int .u64 x2.next] 23) = WB at *;have w26 : WB.cell? ⟨wb, 26, none⟩ = some (.slice k2.aU o.h_.length k2.cU) := bc_ hbC 26;have f26 := bf_ hbC 26;replace hWB := hi_ hWB;replace hzC := hi_ hzC;clear hzA hzB hbA hbB hbC c1 c2 w25 f25 hz9d hz9 hok hS0;go_wp2_with fail;go_meet;case rel => exact ⟨_, _, hzC⟩
     case rest =>
      clear hz9 f4 s4;obtain ⟨aU, cU, hz10⟩ := hcut;have hb10 := (bxS (k := { k2 with aU := aU, cU := cU }) hz10.out rfl hg2.out hil2' x2 hx2.out);have c2 := hb10.1.c2;have f2 := hb10.2 (i * 5 + 2);have hxm2 : x2 ∈ k2.bs := (by rw [← hx2.out]; exact bg hil2');have hz11 := Hr (k := { k2 with aU := aU, cU := cU }) hil2' { x2 with next := x2.next + 1 } hz10.out (by show x2.rows = (k2.bs[i]'hil2').rows; rw [hx2.out]) (by show x2.v = (k2.bs[i]'hil2').v; rw [hx2.out]) hg2.out 2 (by decide) (.int .u64 ((x2.next : Int) + 1)) (by
       show _ = (bxT.enc (k2.bs[i]'hil2')).set 2 _;rw [hx2.out];rfl)
      have hok3 := wm.set (k := { k2 with aU := aU, cU := cU }) (i := i) (m := m2) ⟨hok2.out.1, hok2.out.2⟩ { x2 with next := x2.next + 1 } (hok2.out.2 x2 hxm2);have hm3 : qj m2 i ({ x2 with next := x2.next + 1 } : BxV).b = qj m i (appended x.b q) ∧ ({ o with ag := x2.ag, h_ := [x2.next] } : Oc) = { o with ag := x.ag, h_ := [x.next] } := by
       have e1 := hx1e.out;have e2 := hx2e.out;subst e1 e2;refine ⟨?_, rfl⟩;rw [← hm2.out, ← hm1.out];unfold qj;dsimp only;rw [Qa, Qa];unfold BxV.b appended Gl Ux;dsimp only;rw [fo];rfl
      rw [hm3.1] at hz11 hok3;rw [hm3.2] at hz11;have hb2 : x2.next + 1 < 18446744073709551616 := by
       have e1 := hx1e.out;have e2 := hx2e.out;subst e1 e2;have := hnxH.out;show x.next + 1 < _;omega
      replace hz11 := hi_ (Aa hz11);replace hok3 := hi_ hok3;clear hm3 hz10 hb10 hxm2;go_wp2_with fail;go_ret;exact mr.of hr.out ⟨_, rfl, hok3, hz11⟩
end
section
open Go.RowKit
attribute [local go_sem ↓] Go.wp_at_zero Go.wp_at_succ
def Vr : List UInt8 := [92, 68, 101, 108, 101, 116, 101, 100]
def Ad (l : List Lt) (q : Rq) (x : Lt) : Bool := decide (Vr ∈ x.flags) && (decide (q.h_.length = 0) || l_ l q x)
set_option maxRecDepth 100000 in
set_option maxHeartbeats 8000000 in
theorem Rl {W : World} (x : LtV) (gb mb c d wb : Nat) (rs : List (Nat × Nat)) (au : Option Addr) (cu most : Nat) (h1 : W.cell? ⟨gb, 0, none⟩ = some (.pointer (some ⟨wb, 0, none⟩))) (h2 : W.cell? ⟨mb, 0, none⟩ = some (.func (.func 123) #[] #[.pointer (some ⟨c, 0, none⟩), .pointer (some ⟨d, 0, none⟩)])) (h3 : W.cell? ⟨wb, 15, none⟩ = some (.slice au rs.length cu)) (h4 : W.cell? ⟨c, 0, none⟩ = some (.pointer (some ⟨wb, 0, none⟩))) (h5 : W.cell? ⟨d, 0, none⟩ = some (.int .u64 most)) (hr : p_ W W.heap.size (.slice au rs.length cu) rs) (hl : rs.length ≤ 100000) (hf : Cq W x.v x.x.flags) (hfl : x.x.flags.length ≤ 100000) :
  Calls prog 93 #[.agg (ltT.enc x).toArray, .pointer (some ⟨gb, 0, none⟩), .pointer (some ⟨mb, 0, none⟩)] W fun e w' => e = .returned (.bool (decide (Vr ∈ x.x.flags) && (decide (rs.length = 0) || Dn rs most x.x.uid))) ∧ Hid (Below W.heap.size W w') := by
 have hb := (ae _ W).alloc (ax _) (.cells (nz x).toArray 50);obtain ⟨hx, -⟩ := ((ny W).dz (nz x).toArray 50).box 0 rfl;replace h1 := lg (.cells (nz x).toArray 50) h1;replace h2 := lg (.cells (nz x).toArray 50) h2;replace h3 := lg (.cells (nz x).toArray 50) h3;replace h4 := lg (.cells (nz x).toArray 50) h4;replace h5 := lg (.cells (nz x).toArray 50) h5;have hmeant := hi_ (Jn x c d wb rs au cu most h4 h3 h5 (hr.on hb) hl);have hhas := hi_ (Zg x.v x.x.flags ⟨#[92, 68, 101, 108, 101, 116, 101, 100]⟩ _ (jf hf hb) (by omega));have r0 : (W.alloc (.cells (nz x).toArray 50)).cell? ⟨W.heap.size, 0, none⟩ = some (.int .u64 x.x.uid) := bc_ hx 0;have r1 : (W.alloc (.cells (nz x).toArray 50)).cell? ⟨W.heap.size, 1, none⟩ = some (.slice x.a x.x.flags.length x.c) := bc_ hx 1;have r2 : (W.alloc (.cells (nz x).toArray 50)).cell? ⟨W.heap.size, 2, none⟩ = some (.int .u64 x.x.mod) := bc_ hx 2;have r3 : (W.alloc (.cells (nz x).toArray 50)).cell? ⟨W.heap.size, 3, none⟩ = some (.string x.x.hash) := bc_ hx 3;have r4 : (W.alloc (.cells (nz x).toArray 50)).cell? ⟨W.heap.size, 4, none⟩ = some (.int .u64 x.x.size) := bc_ hx 4;obtain ⟨R, hR⟩ : ∃ R, (decide (Vr ∈ x.x.flags) && (decide (rs.length = 0) || Dn rs most x.x.uid)) = R := ⟨_, rfl⟩;rw [hR];replace hR := hi_ hR;have hhas2 : Hid (Calls prog 94 #[.slice x.a x.x.flags.length x.c, .string ⟨#[92, 68, 101, 108, 101, 116, 101, 100]⟩] (W.alloc (.cells (nz x).toArray 50)) fun e w' => e = .returned (.bool (decide (Vr ∈ x.x.flags))) ∧ (W.alloc (.cells (nz x).toArray 50)) = w') := hhas;have hm2 : Hid (Calls prog 123 #[.agg #[.int .u64 x.x.uid, .slice x.a x.x.flags.length x.c, .int .u64 x.x.mod, .string x.x.hash, .int .u64 x.x.size], .pointer (some ⟨c, 0, none⟩), .pointer (some ⟨d, 0, none⟩)] (W.alloc (.cells (nz x).toArray 50)) fun e w' => e = .returned (.bool (Dn rs most x.x.uid)) ∧ Hid (Below (W.alloc (.cells (nz x).toArray 50)).heap.size (W.alloc (.cells (nz x).toArray 50)) w')) := hmeant;show Calls prog 93 #[.agg #[.int .u64 x.x.uid, .slice x.a x.x.flags.length x.c, .int .u64 x.x.mod, .string x.x.hash, .int .u64 x.x.size], .pointer (some ⟨gb, 0, none⟩), .pointer (some ⟨mb, 0, none⟩)] W _;replace hb := hi_ hb;clear hx hr hf hhas hmeant h4 h5;unfold nz LtV.v at *;obtain ⟨B, hB⟩ : ∃ B, W.heap.size = B := ⟨_, rfl⟩;rw [hB] at r0 r1 r2 r3 r4;generalize hW1 : (W.alloc (.cells [Value.int .u64 x.x.uid, .slice x.a x.x.flags.length x.c, .int .u64 x.x.mod, .string x.x.hash, .int .u64 x.x.size].toArray 50)) = W1 at *;generalize hdel : decide (Vr ∈ x.x.flags) = D at *;generalize hmm : Dn rs most x.x.uid = M at *;replace hdel := hi_ hdel;replace hmm := hi_ hmm;go_enter func93, ntmps93;go_wp2_with fail;refine hhas2.out.mono ?_;rintro e w3 ⟨rfl, rfl⟩;clear hhas2;cases D with
 | false =>
  go_wp2_with fail;go_ret;exact ⟨mo hR.out, hb⟩
 | true =>
  by_cases h0 : rs.length = 0
  ·rw [h0] at h3 hR;clear h0;go_wp2_with fail;go_ret;exact ⟨mo hR.out, hb⟩
  have h0' : ((rs.length : Int) == 0) = false := by simpa using h0
  rw [aj h0] at hR;clear h0;go_wp2_with fail;refine hm2.out.mono ?_;rintro e w3 ⟨rfl, hb3⟩;have hB2 := hi_ (hb.out.trans (hb3.out.mono (by have := hb.out.size; omega)));clear hm2 hb3;go_wp2_with fail;go_ret;exact ⟨mo hR.out, hB2⟩
end
end Go.Proofs.YtdobbfjmlnlieaaGreat
