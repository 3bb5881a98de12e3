/- The document's With and Change, and that what they hand back -/
import Derived.Test.YtdobbfjmlnlieaaGreatA01
import Derived.Test.YtdobbfjmlnlieaaGreatA07
namespace Go.Proofs.YtdobbfjmlnlieaaGreat
set_option linter.unusedSimpArgs false
namespace Tryz
end Tryz
open Go.Proofs.Tryz Go.Proofs.YtdobbfjmlnlieaaGreat.Tryz
section
open Go.RowKit
def B_ (B : Nat) (v : Value) : Prop := ∀ g, v.ownBlock = some g → B ≤ g
def gu_ (B : Nat) (l : List (List UInt8)) (w : World) (e : Ending) (w' : World) : Prop := ∃ v', e = .returned v' ∧ Hid (Rd w' v' l.length (l.map encStr)) ∧ Hid (B_ B v') ∧ Hid (Below w.heap.size w w')
set_option maxRecDepth 100000 in
set_option maxHeartbeats 2000000 in
theorem Ep (B : Nat) (v : Value) (l : List (List UInt8)) (f : ByteArray) (w : World) (hr : Rd w v l.length (l.map encStr)) (hl : (l.length + 2) * 16 ≤ 140737488355328) (hB : B ≤ w.heap.size) (hN : B_ B v) :
  Calls prog 68 #[v, .string f] w (gu_ B (Cg flt l f.data.toList) w) := by
 have hr0 := hi_ hr;replace hB := hi_ hB;replace hN := hi_ hN;obtain ⟨ao, cap, rfl, -⟩ := hr;go_enter func68, ntmps68;go_wp2_with fail;refine (Jl _ l f w hr0.out (by omega)).mono ?_;rintro e w' ⟨rfl, rfl⟩;by_cases hm : f.data.toList ∈ l
 ·have hd : decide (f.data.toList ∈ l) = true := b_ hm;have hw : Hid (Cg flt l f.data.toList = l) := hi_ (by rw [Cg, dh hm]);rw [hd];clear hd hm;go_wp2_with fail;go_ret;exact ⟨_, rfl, by rw [hw.out]; exact hr0, hN, hi_ (ae _ _)⟩
 have hd : decide (f.data.toList ∈ l) = false := aj hm;have hw : Hid (Cg flt l f.data.toList = uh flt f.data.toList l) := hi_ (by rw [Cg, bq hm]);rw [hd];clear hd hm;go_wp2_with fail;go_loopw [5, 6, 7] (fun vo vd vk wr => ∃ (k : Nat) (d : Bool) (out : List (List UInt8)), vk = .int .i64 k ∧ vd = .bool d ∧ k ≤ l.length ∧ Hid (u7 f.data.toList l k d out) ∧ Hid (Ei wr w.heap.size vo out) ∧ Hid (Below w.heap.size w wr)) (fun _ _ vk _ => l.length - (intOf vk).toNat);case atStart => exact ⟨0, false, [], rfl, rfl, dw _, hi_ (.start _ _), hi_ (Ei.nil _ _), hi_ (ae _ _)⟩
 case round =>
  obtain ⟨k, d, out, rfl, rfl, hk, hinv, hown, hb⟩ := hrel;have hol := hinv.out.len;have hsz := hb.out.size;by_cases hlt : k < l.length
  ·obtain ⟨b, o, hao, hbl, hcell⟩ := hr0.out.Bz (by omega);subst hao;have hc : ∀ wz, Below w.heap.size w wz → wz.cell? ⟨b, o + k, none⟩ = some (.string (mkB l[k])) := fun wz hz => (hz.cell (p := ⟨b, o + k, none⟩) hbl).trans (Aq hcell hlt);have hcw := hc wr hb.out;replace hc := hi_ hc;clear hcell;cases d
   ·have hok : out.length ≤ k := (by rw [hinv.out.1, bf]; omega);have hlk : Hid ((mkB l[k]).data.toList = l[k]) := hi_ rfl;have hk1 : Hid (flt f.data.toList l[k] = false → u7 f.data.toList l (k + 1) false (out ++ [(mkB l[k]).data.toList])) := hi_ (fun h => hinv.out.skip hlt h);have hk2 : Hid (flt f.data.toList l[k] = true → u7 f.data.toList l (k + 1) true (out ++ [f.data.toList, (mkB l[k]).data.toList])) := hi_ (fun h => by have := hinv.out.put hlt h; rwa [jd] at this);have hless := hi_ (Mr f (mkB l[k]) wr);rw [vz] at hless;generalize mkB l[k] = X at hcw hc hk1 hk2 hless hlk;go_wp2_with fail;refine hless.out.mono ?_;rintro e w' ⟨rfl, rfl⟩;cases hf : flt f.data.toList l[k]
    ·have hn := hi_ (hk1.out hf);clear hk1 hk2 hless;replace hf := hi_ hf;go_wp2_with (at_builtin; refine wpList_append_text rfl (.tmp 32) (.tmp 37) rfl w.heap.size u5 out wr.heap.size X rfl rfl (hown.out.below (Lays.alloc _ _).below) (by simp) (by simp) (by omega) (by simp; omega) ?_);intro v4 w4 ho4 hg4 hv4;have hb4 := hi_ ((hb.out.alloc hb.out.size _).grown hg4 (by simp; omega) (fun k hk => (hown.out.lt k hk).1));replace ho4 := hi_ ho4;clear hg4 hv4;go_wp2_with fail;go_roundw;case rel => exact ⟨k + 1, false, _, by go_num, rfl, by omega, hn, ho4, hb4⟩
     case measure => simp [intOf]; omega
    have hn := hi_ (hk2.out hf);clear hk1 hk2 hless;replace hf := hi_ hf;go_wp2_with (at_builtin; refine wpList_append_text rfl (.tmp 28) (.tmp 30) rfl w.heap.size u5 out wr.heap.size f rfl rfl (hown.out.below (Lays.alloc _ _).below) (by simp) (by simp) (by omega) (by simp; omega) ?_);intro v4 w4 ho4 hg4 hv4;have hb4 := hi_ ((hb.out.alloc hb.out.size _).grown hg4 (by simp; omega) (fun k hk => (hown.out.lt k hk).1));have hcw4 := hc.out w4 hb4.out;have hsz4 := hb4.out.size;have hl4 : (out ++ [f.data.toList]).length = out.length + 1 := (by simp);replace ho4 := hi_ ho4;clear hg4 hv4;go_wp2_with (at_builtin; refine wpList_append_text rfl (.tmp 32) (.tmp 37) rfl w.heap.size v4 (out ++ [f.data.toList]) w4.heap.size X rfl rfl (ho4.out.below (Lays.alloc _ _).below) (by simp) (by simp) (by omega) (by simp; omega) ?_);intro v5 w5 ho5 hg5 hv5;have hb5 := hi_ ((hb4.out.alloc hb4.out.size _).grown hg5 (by simp; omega) (fun k hk => (ho4.out.lt k hk).1));replace ho5 := hi_ ho5;clear hg5 hv5;go_wp2_with fail;go_roundw;case rel => exact ⟨k + 1, true, _, by go_num, rfl, by omega, hn, ho5, hb5⟩
    case measure => simp [intOf]; omega
   have hn : Hid (u7 f.data.toList l (k + 1) true (out ++ [(mkB l[k]).data.toList])) := hi_ (hinv.out.on hlt);generalize mkB l[k] = X at hcw hc hn;go_wp2_with (at_builtin; refine wpList_append_text rfl (.tmp 32) (.tmp 37) rfl w.heap.size u5 out wr.heap.size X rfl rfl (hown.out.below (Lays.alloc _ _).below) (by simp) (by simp) (by omega) (by simp; omega) ?_);intro v4 w4 ho4 hg4 hv4;have hb4 := hi_ ((hb.out.alloc hb.out.size _).grown hg4 (by simp; omega) (fun k hk => (hown.out.lt k hk).1));replace ho4 := hi_ ho4;clear hg4 hv4;go_wp2_with fail;go_roundw;case rel => exact ⟨k + 1, true, _, by go_num, rfl, by omega, hn, ho4, hb4⟩
   case measure => simp [intOf]; omega
  obtain rfl : k = l.length := by omega
  have he := hi_ hinv.out.hz_;cases d
  ·go_wp2_with (at_builtin; refine wpList_append_text rfl (.tmp 41) (.tmp 43) rfl w.heap.size u5 out wr.heap.size f rfl rfl (hown.out.below (Lays.alloc _ _).below) (by simp) (by simp) (by omega) (by simp; omega) ?_);intro v4 w4 ho4 hg4 hv4;have hb4 := hi_ ((hb.out.alloc hb.out.size _).grown hg4 (by simp; omega) (fun k hk => (hown.out.lt k hk).1));replace ho4 := hi_ ho4;clear hg4 hv4;go_wp2_with fail;go_ret;exact ⟨_, rfl, hi_ (by rw [hw.out, he.out]; exact ho4.out.rd), hi_ (fun k hk => ed hB.out (ho4.out.lt k hk).1), hb4⟩
  go_wp2_with fail;go_ret;exact ⟨_, rfl, hi_ (by rw [hw.out, he.out]; exact hown.out.rd), hi_ (fun k hk => ed hB.out (hown.out.lt k hk).1), hb⟩
def Tx (l : List (List UInt8)) (how : Int) (by_ : List (List UInt8)) (w : World) (e : Ending) (w' : World) : Prop := ∃ v', e = .returned (.tuple #[v', .int .i64 (zl l how by_ : Int)]) ∧ Hid (Rd w' v' (Ao l how by_).length ((Ao l how by_).map encStr)) ∧ Hid (B_ w.heap.size v') ∧ Hid (Below w.heap.size w w')
theorem Ko {l by_ : List (List UInt8)} {how : Int} {w w' : World} (h : Cw l how by_ = false) (hb : Below w.heap.size w w') : Tx l how by_ w (.returned (.tuple #[.slice none 0 0, .int .i64 1])) w' :=
 ⟨_, by rw [zl, h]; rfl, hi_ (by rw [Ao, h]; exact ⟨none, 0, rfl, .inl rfl⟩), hi_ (fun g hg => by cases hg), hi_ hb⟩
theorem Pt {l by_ : List (List UInt8)} {how : Int} {w w' : World} (h : Cw l how by_ = true) (h2 : 16 < (ni (Ed l how by_)).length) (hb : Below w.heap.size w w') : Tx l how by_ w (.returned (.tuple #[.slice none 0 0, .int .i64 7])) w' :=
 ⟨_, by rw [zl, h, dh rfl, dh h2]; rfl, hi_ (by rw [Ao, h, dh rfl, dh h2]; exact ⟨none, 0, rfl, .inl rfl⟩), hi_ (fun g hg => by cases hg), hi_ hb⟩
theorem Yj {l by_ : List (List UInt8)} {how : Int} {w w' : World} {v : Value} (h : Cw l how by_ = true) (h2 : ¬ 16 < (ni (Ed l how by_)).length) (hr : Rd w' v (ni (Ed l how by_)).length ((ni (Ed l how by_)).map encStr)) (hn : B_ w.heap.size v) (hb : Below w.heap.size w w') : Tx l how by_ w (.returned (.tuple #[v, .int .i64 0])) w' :=
 ⟨v, by rw [zl, h, dh rfl, bq h2]; rfl, hi_ (by rw [Ao, h, dh rfl, bq h2]; exact hr), hi_ hn, hi_ hb⟩
set_option maxRecDepth 100000 in
set_option maxHeartbeats 8000000 in
theorem Qq (v u : Value) (l by_ : List (List UInt8)) (how : Int) (w : World) (hr : Rd w v l.length (l.map encStr)) (hu : Rd w u by_.length (by_.map encStr)) (hl : (l.length + 2) * 16 ≤ 140737488355328) (hul : (by_.length + 2) * 16 ≤ 140737488355328) (hs : Eh l) (hus : Eh by_) :
  Calls prog 23 #[v, .int .i64 how, u] w (Tx l how by_ w) := by
 have hr0 := hi_ hr;have hu0 := hi_ hu;replace hs := hi_ hs;replace hus := hi_ hus;obtain ⟨ao, cap, rfl, -⟩ := hr;obtain ⟨ao2, cap2, rfl, -⟩ := hu;go_enter func23, ntmps23;go_wp2_with fail;refine (Bq _ l _ hr0.out hl hs.out).mono ?_;rintro e w1 ⟨rfl, hb1'⟩;cases hR : kr l
 ·have hno : Hid (Cw l how by_ = false) := hi_ (by rw [Cw, hR]; rfl);replace hR := hi_ hR;go_wp2_with fail;go_ret2
  exact Ko hno.out hb1'.out
 replace hR := hi_ hR;go_wp2_with fail;refine (Bq _ by_ w1 (hu0.out.below hb1'.out) hul hus.out).mono ?_;rintro e w2 ⟨rfl, b2⟩;have hb2' : Hid (Below w.heap.size w w2) := hi_ (hb1'.out.trans (b2.out.mono hb1'.out.size));clear b2 hb1';cases hR2 : kr by_
 ·have hno : Hid (Cw l how by_ = false) := hi_ (by rw [Cw, hR2]; simp);replace hR2 := hi_ hR2;go_wp2_with fail;go_ret2
  exact Ko hno.out hb2'.out
 replace hR2 := hi_ hR2;by_cases hlo : how < 0
 ·have hno : Hid (Cw l how by_ = false) := hi_ (by rw [Cw, aj (show ¬ 0 ≤ how by omega)]; simp);go_wp2_with fail;go_ret2
  exact Ko hno.out hb2'.out
 by_cases hhi : 2 < how
 ·have hno : Hid (Cw l how by_ = false) := hi_ (by rw [Cw, aj (show ¬ how < 3 by omega)]; simp);go_wp2_with fail;go_ret2
  exact Ko hno.out hb2'.out
 have hokk := hi_ (Ym hR.out hR2.out (show 0 ≤ how by omega) (show how < 3 by omega));have hl16 := Bo hR.out;have hu16 := Bo hR2.out;clear hl hul hs hus hR hR2;rcases (show how = 0 ∨ how = 1 ∨ how = 2 by omega) with rfl | rfl | rfl
 ·clear hlo hhi;go_wp2_with fail;go_loopw [8, 10] (fun vo vk wr => ∃ (k : Nat), vk = .int .i64 k ∧ k ≤ by_.length ∧ Hid (Rd wr vo (ni (by_.take k)).length ((ni (by_.take k)).map encStr)) ∧ Hid (B_ w.heap.size vo) ∧ Hid (Below w.heap.size w wr)) (fun _ vk _ => by_.length - (intOf vk).toNat);case atStart => exact ⟨0, rfl, dw _, hi_ (Ou _), hi_ (fun g hg => by cases hg), hb2'⟩
  case round =>
   obtain ⟨k, rfl, hk, hrd, hN, hb⟩ := hrel;by_cases hlt : k < by_.length
   ·have hur := hi_ (hu0.out.below hb.out);obtain ⟨b, o, hao, hbl, hcell⟩ := hur.out.Bz (by omega);subst hao;have hcw : wr.cell? ⟨b, o + k, none⟩ = some (.string (mkB by_[k])) := Aq hcell hlt;have hln : (ni (by_.take k)).length ≤ 60 := ed (yn flt _) (by simp; omega);have hwith := hi_ (Ep w.heap.size u8 (ni (by_.take k)) (mkB by_[k]) wr hrd.out (by omega) hb.out.size hN.out);rw [vz, Iq, ← ak hlt] at hwith;generalize mkB by_[k] = X at hcw hwith;clear hcell hrd hln;go_wp2_with fail;refine hwith.out.mono ?_;rintro e w4 ⟨v4, rfl, hr4, hN4, b4⟩;have hb4 := hi_ (hb.out.trans (b4.out.mono hb.out.size));clear b4 hwith;go_wp2_with fail;go_roundw;case rel => exact ⟨k + 1, by go_num, by omega, hr4, hN4, hb4⟩
    case measure => simp [intOf]; omega
   obtain rfl : k = by_.length := (by omega);rw [gp] at hrd;obtain ⟨a3, c3, hv3⟩ : ∃ a c, u8 = .slice a (ni by_).length c := by
    obtain ⟨a, c, h, _⟩ := hrd.out; exact ⟨a, c, h⟩
   subst hv3;obtain ⟨F, hF⟩ : ∃ F, Hid (F = ni by_) := ⟨_, hi_ rfl⟩;have hFI : Hid (F = ni (Ed l 0 by_)) := hi_ (by rw [hF.out]; rfl);have hfl : (ni by_).length ≤ (by_).length := yn flt _;have hF40 : F.length ≤ 40 := by
    rw [hF.out];refine ed hfl ?_;omega
   have hrd' : Hid (Rd wr (.slice a3 F.length c3) F.length (F.map encStr)) := hi_ (by rw [hF.out]; exact hrd.out);have hN' : Hid (B_ w.heap.size (.slice a3 F.length c3)) := hi_ (by rw [hF.out]; exact hN.out);rw [← hF.out];clear hrd hF hfl;by_cases h16 : 16 < F.length
   ·go_wp2_with fail;go_ret2
    exact Pt hokk.out (by rw [← hFI.out]; exact h16) hb.out
   go_wp2_with fail;go_ret2
   exact Yj hokk.out (by rw [← hFI.out]; exact h16) (by rw [← hFI.out]; exact hrd'.out) hN'.out hb.out
 ·clear hlo hhi;go_wp2_with fail;go_loopw [8, 9] (fun vo vk wr => ∃ (k : Nat), vk = .int .i64 k ∧ k ≤ l.length ∧ Hid (Rd wr vo (ni (l.take k)).length ((ni (l.take k)).map encStr)) ∧ Hid (B_ w.heap.size vo) ∧ Hid (Below w.heap.size w wr)) (fun _ vk _ => l.length - (intOf vk).toNat);case atStart => exact ⟨0, rfl, dw _, hi_ (Ou _), hi_ (fun g hg => by cases hg), hb2'⟩
  case round =>
   obtain ⟨k, rfl, hk, hrd, hN, hb⟩ := hrel;by_cases hlt : k < l.length
   ·have hur := hi_ (hr0.out.below hb.out);obtain ⟨b, o, hao, hbl, hcell⟩ := hur.out.Bz (by omega);subst hao;have hcw : wr.cell? ⟨b, o + k, none⟩ = some (.string (mkB l[k])) := Aq hcell hlt;have hln : (ni (l.take k)).length ≤ 60 := ed (yn flt _) (by simp; omega);have hwith := hi_ (Ep w.heap.size u8 (ni (l.take k)) (mkB l[k]) wr hrd.out (by omega) hb.out.size hN.out);rw [vz, Iq, ← ak hlt] at hwith;generalize mkB l[k] = X at hcw hwith;clear hcell hrd hln;go_wp2_with fail;refine hwith.out.mono ?_;rintro e w4 ⟨v4, rfl, hr4, hN4, b4⟩;have hb4 := hi_ (hb.out.trans (b4.out.mono hb.out.size));clear b4 hwith;go_wp2_with fail;go_roundw;case rel => exact ⟨k + 1, by go_num, by omega, hr4, hN4, hb4⟩
    case measure => simp [intOf]; omega
   obtain rfl : k = l.length := (by omega);rw [gp] at hrd;go_wp2_with fail;go_loopw [8, 10] (fun vo vk wr => ∃ (k : Nat), vk = .int .i64 k ∧ k ≤ by_.length ∧ Hid (Rd wr vo (ni (l ++ by_.take k)).length ((ni (l ++ by_.take k)).map encStr)) ∧ Hid (B_ w.heap.size vo) ∧ Hid (Below w.heap.size w wr)) (fun _ vk _ => by_.length - (intOf vk).toNat);case atStart => exact ⟨0, rfl, dw _, hi_ (by rw [List.take_zero, jy]; exact hrd.out), hN, hb⟩
   case round =>
    obtain ⟨k, rfl, hk, hrd, hN, hb⟩ := hrel;by_cases hlt : k < by_.length
    ·have hur := hi_ (hu0.out.below hb.out);obtain ⟨b, o, hao, hbl, hcell⟩ := hur.out.Bz (by omega);subst hao;have hcw : wr.cell? ⟨b, o + k, none⟩ = some (.string (mkB by_[k])) := Aq hcell hlt;have hln : (ni (l ++ by_.take k)).length ≤ 60 := ed (yn flt _) (by simp; omega);have hwith := hi_ (Ep w.heap.size u8 (ni (l ++ by_.take k)) (mkB by_[k]) wr hrd.out (by omega) hb.out.size hN.out);rw [vz, Iq, jd, ← ak hlt] at hwith;generalize mkB by_[k] = X at hcw hwith;clear hcell hrd hln;go_wp2_with fail;refine hwith.out.mono ?_;rintro e w4 ⟨v4, rfl, hr4, hN4, b4⟩;have hb4 := hi_ (hb.out.trans (b4.out.mono hb.out.size));clear b4 hwith;go_wp2_with fail;go_roundw;case rel => exact ⟨k + 1, by go_num, by omega, hr4, hN4, hb4⟩
     case measure => simp [intOf]; omega
    obtain rfl : k = by_.length := (by omega);rw [gp] at hrd;obtain ⟨a3, c3, hv3⟩ : ∃ a c, u8 = .slice a (ni (l ++ by_)).length c := by
     obtain ⟨a, c, h, _⟩ := hrd.out; exact ⟨a, c, h⟩
    subst hv3;obtain ⟨F, hF⟩ : ∃ F, Hid (F = ni (l ++ by_)) := ⟨_, hi_ rfl⟩;have hFI : Hid (F = ni (Ed l 1 by_)) := hi_ (by rw [hF.out]; rfl);have hfl : (ni (l ++ by_)).length ≤ ((l ++ by_)).length := yn flt _;have hF40 : F.length ≤ 40 := by
     rw [hF.out];refine ed hfl ?_;simp; omega
    have hrd' : Hid (Rd wr (.slice a3 F.length c3) F.length (F.map encStr)) := hi_ (by rw [hF.out]; exact hrd.out);have hN' : Hid (B_ w.heap.size (.slice a3 F.length c3)) := hi_ (by rw [hF.out]; exact hN.out);rw [← hF.out];clear hrd hF hfl;by_cases h16 : 16 < F.length
    ·go_wp2_with fail;go_ret2
     exact Pt hokk.out (by rw [← hFI.out]; exact h16) hb.out
    go_wp2_with fail;go_ret2
    exact Yj hokk.out (by rw [← hFI.out]; exact h16) (by rw [← hFI.out]; exact hrd'.out) hN'.out hb.out
 clear hlo hhi;go_wp2_with fail;go_loopw [8, 9] (fun vo vk wr => ∃ (k : Nat), vk = .int .i64 k ∧ k ≤ l.length ∧ Hid (Rd wr vo (ni ((l.take k).filter fun x => !decide (x ∈ by_))).length ((ni ((l.take k).filter fun x => !decide (x ∈ by_))).map encStr)) ∧ Hid (B_ w.heap.size vo) ∧ Hid (Below w.heap.size w wr)) (fun _ vk _ => l.length - (intOf vk).toNat);case atStart => exact ⟨0, rfl, dw _, hi_ (Ou _), hi_ (fun g hg => by cases hg), hb2'⟩
 case round =>
  obtain ⟨k, rfl, hk, hrd, hN, hb⟩ := hrel;by_cases hlt : k < l.length
  ·have hur := hi_ (hr0.out.below hb.out);have huu := hi_ (hu0.out.below hb.out);obtain ⟨b, o, hao, hbl, hcell⟩ := hur.out.Bz (by omega);subst hao;have hcw : wr.cell? ⟨b, o + k, none⟩ = some (.string (mkB l[k])) := Aq hcell hlt;have hln : (ni ((l.take k).filter fun x => !decide (x ∈ by_))).length ≤ 60 := ed (yn flt _) (ed (lw _ _) (by simp; omega));have hhas := hi_ (Jl (.slice ao2 by_.length cap2) by_ (mkB l[k]) wr huu.out (by omega));rw [vz] at hhas;have htake : (l.take (k + 1)).filter (fun x => !decide (x ∈ by_)) = (l.take k).filter (fun x => !decide (x ∈ by_)) ++ (if l[k] ∈ by_ then [] else [l[k]]) := by
    rw [ak hlt, kv];by_cases hm : l[k] ∈ by_ <;> simp [hm]
   have hwith := hi_ (Ep w.heap.size u8 (ni ((l.take k).filter fun x => !decide (x ∈ by_))) (mkB l[k]) wr hrd.out (by omega) hb.out.size hN.out);rw [vz, Iq] at hwith;by_cases hm : l[k] ∈ by_
   ·rw [dh hm, jy] at htake;rw [← htake] at hrd;rw [b_ hm] at hhas;clear hwith htake hm hcell hln;generalize mkB l[k] = X at hcw hhas;go_wp2_with fail;refine hhas.out.mono ?_;rintro e w4 ⟨rfl, rfl⟩;go_wp2_with fail;go_roundw;case rel => exact ⟨k + 1, by go_num, by omega, hrd, hN, hb⟩
    case measure => simp [intOf]; omega
   rw [bq hm] at htake;rw [← htake] at hwith;rw [aj hm] at hhas;clear htake hm hcell hln hrd;generalize mkB l[k] = X at hcw hhas hwith;go_wp2_with fail;refine hhas.out.mono ?_;rintro e w4 ⟨rfl, rfl⟩;go_wp2_with fail;refine hwith.out.mono ?_;rintro e w4 ⟨v4, rfl, hr4, hN4, b4⟩;have hb4 := hi_ (hb.out.trans (b4.out.mono hb.out.size));clear b4 hwith;go_wp2_with fail;go_roundw;case rel => exact ⟨k + 1, by go_num, by omega, hr4, hN4, hb4⟩
   case measure => simp [intOf]; omega
  obtain rfl : k = l.length := by omega
  rw [gp] at hrd;obtain ⟨a3, c3, hv3⟩ : ∃ a c, u8 = .slice a (ni (l.filter fun x => !decide (x ∈ by_))).length c := by
   obtain ⟨a, c, h, _⟩ := hrd.out; exact ⟨a, c, h⟩
  subst hv3;obtain ⟨F, hF⟩ : ∃ F, Hid (F = ni (l.filter fun x => !decide (x ∈ by_))) := ⟨_, hi_ rfl⟩;have hFI : Hid (F = ni (Ed l 2 by_)) := hi_ (by rw [hF.out, qa_]);have hfl : (ni (l.filter fun x => !decide (x ∈ by_))).length ≤ ((l.filter fun x => !decide (x ∈ by_))).length := yn flt _;have hF40 : F.length ≤ 40 := by
   rw [hF.out];refine ed hfl ?_;exact ed (lw _ _) (by omega)
  have hrd' : Hid (Rd wr (.slice a3 F.length c3) F.length (F.map encStr)) := hi_ (by rw [hF.out]; exact hrd.out);have hN' : Hid (B_ w.heap.size (.slice a3 F.length c3)) := hi_ (by rw [hF.out]; exact hN.out);rw [← hF.out];clear hrd hF hfl;by_cases h16 : 16 < F.length
  ·go_wp2_with fail;go_ret2
   exact Pt hokk.out (by rw [← hFI.out]; exact h16) hb.out
  go_wp2_with fail;go_ret2
  exact Yj hokk.out (by rw [← hFI.out]; exact h16) (by rw [← hFI.out]; exact hrd'.out) hN'.out hb.out
end
end Go.Proofs.YtdobbfjmlnlieaaGreat
