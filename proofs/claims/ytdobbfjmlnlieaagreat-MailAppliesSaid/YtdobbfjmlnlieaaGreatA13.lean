/- Which states are right: plain; The document's answer which mailboxes may be: walked; The document's Home: walked; The document's operations on states: no, At, Last; The document's At and Last: walked; The document's seats (a state with a session's Last, or with; The document's put (a state with a ma -/
import Derived.Test.YtdobbfjmlnlieaaGreatA01
import Derived.Test.YtdobbfjmlnlieaaGreatA12
import Derived.Test.YtdobbfjmlnlieaaGreatA11
namespace Go.Proofs.YtdobbfjmlnlieaaGreat
set_option linter.unusedSimpArgs false
namespace Tryz
end Tryz
open Go.Proofs.Tryz Go.Proofs.YtdobbfjmlnlieaaGreat.Tryz
section
open Go.RowKit
def Jh (P : Prop) (W : World) (e : Ending) (w' : World) : Prop := ∃ B, e = .returned (.bool B) ∧ Hid (B = true ↔ P) ∧ Hid (Below W.heap.size W w')
structure Py (x : Lt) (b : Bx) : Prop where
 u1 : 0 < x.uid
 u2 : x.uid < b.next
 fl : kr x.flags = true
 m1 : 0 < x.mod
 m2 : x.mod ≤ b.high
 hs : x.hash.size = 32
 sz : x.size ≤ 4096
structure Im (b : Bx) (next : Nat) : Prop where
 ok : uu b.name.data.toList = true
 nm : Kw b.name.data.toList = b.name.data.toList
 v1 : 1 ≤ b.ag
 v2 : b.ag < next
 n1 : 1 ≤ b.next
 n2 : b.next ≤ 4294967296
 h1 : 1 ≤ b.high
 h2 : b.high ≤ 9223372036854775807
 len : b.letters.length ≤ 32
 lets : ∀ x ∈ b.letters, Py x b
 up : b.letters.Pairwise (fun x y => x.uid < y.uid)
structure Il (h : Hm) : Prop where
 n1 : 1 ≤ h.node
 n2 : h.node ≤ 5
 l : h.life ≠ 0
 t : h.ek ≠ 0
structure Ng (m : Ml) (x : St) : Prop where
 s1 : 1 ≤ x.session
 s2 : x.session < m.ns
 t1 : 1 ≤ x.ek
 home : ∃ h ∈ m.homes, h.node = x.node ∧ h.life = x.life ∧ x.ek ≤ h.ek
structure zm (m : Ml) : Prop where
 homes : ∀ h ∈ m.homes, Il h
 hup : m.homes.Pairwise (fun x y => x.node < y.node)
 seats : ∀ x ∈ m.seats, Ng m x
 sup : m.seats.Pairwise (fun x y => x.session < y.session)
 twin : m.seats.Pairwise (fun x y => ¬ (x.node = y.node ∧ x.ek = y.ek))
structure jq (m : Ml) : Prop where
 lb : m.boxes.length ≤ 8
 nv : m.nv ≤ 4294967296
 ns1 : 1 ≤ m.ns
 ns2 : m.ns ≤ 4611686018427387904
 sw : m.a_ ≤ 9223372036854775807
 ls : m.seats.length ≤ 16
 boxes : ∀ b ∈ m.boxes, Im b m.nv
 names : m.boxes.Pairwise (fun x y => mh x y = true)
 vals : m.boxes.Pairwise (fun x y => x.ag ≠ y.ag)
 inbox : ∃ b ∈ m.boxes, b.name.data.toList = Ag
 seated : zm m
theorem Mm : ∀ (l : List Hm) (k : Int), (∀ h ∈ l, k < h.node ∧ h.node ≤ 5) → l.Pairwise (fun x y => x.node < y.node) → (l.length : Int) ≤ max 0 (5 - k)
 | [], k, _, _ => by simp; omega
 | h :: r, k, h1, h2 => by
  have h2' := jg.1 h2;have hh := h1 h (by simp);have := Mm r h.node (fun x hx => ⟨h2'.1 x hx, (h1 x (by simp [hx])).2⟩) h2'.2;simp only [qc];omega
theorem jq.Pi {m : Ml} (h : jq m) : m.homes.length ≤ 5 := by
 have := Mm m.homes 0 (fun x hx => ⟨by have := (h.seated.homes x hx).n1; omega, (h.seated.homes x hx).n2⟩) h.seated.hup;omega
theorem Mq {l : List (List UInt8)} (h : kr l = true) : Eh l := co_ (Un h)
theorem jq.sized {m : Ml} (h : jq m) : Ik m := ⟨by have := h.lb; omega, by have := h.Pi; omega, by have := h.ls; omega, fun b hb => by have := (h.boxes b hb).len; omega, fun b hb x hx => by have := Bo ((h.boxes b hb).lets x hx).fl; omega⟩
theorem jq.ap {m : Ml} (h : jq m) : Gr m where
 sz := h.sized
 nb := by have := h.lb; omega
 nh := by have := h.Pi; omega
 hm := ⟨h.seated.hup, fun x hx => by have := (h.seated.homes x hx).n1; have := (h.seated.homes x hx).n2; omega⟩
 nx := fun b hb => (h.boxes b hb).n2
 hi := fun b hb => (h.boxes b hb).h2
 fs := fun b hb x hx => Mq ((h.boxes b hb).lets x hx).fl
 so := h.names
 sw := h.sw
def Qx (l : List Lt) (b : Bx) (j : Nat) (last : Nat) : Prop := (∀ x ∈ l.take j, Py x b) ∧ (l.take j).Pairwise (fun x y => x.uid < y.uid) ∧ ∀ x ∈ l.take j, x.uid ≤ last
theorem Qx.zero (l : List Lt) (b : Bx) : Qx l b 0 0 := ⟨fun x hx => by simp at hx, by simp, fun x hx => by simp at hx⟩
theorem Qx.step {l : List Lt} {b : Bx} {j last : Nat} (h : Qx l b j last) (hj : j < l.length) (hp : Py l[j] b) (hl : last < l[j].uid) : Qx l b (j + 1) l[j].uid := by
 unfold Qx;rw [ak hj];refine ⟨fun x hx => ?_, ?_, fun x hx => ?_⟩
 ·rcases fe.1 hx with hx | hx
  ·exact h.1 x hx
  rw [dx.1 hx]; exact hp
 ·refine j3.2 ⟨h.2.1, by simp, fun x hx y hy => ?_⟩;rw [dx.1 hy];have := h.2.2 x hx;omega
 rcases fe.1 hx with hx | hx
 ·have := h.2.2 x hx; omega
 rw [dx.1 hx]; exact ax _
theorem Im.last {b : Bx} {next : Nat} (h : Im b next) {j last : Nat} (hj : j < b.letters.length) (hl : j = 0 ∧ last = 0 ∨ ∃ k, k < j ∧ b.letters[k]?.map Lt.uid = some last) : last < b.letters[j].uid := by
 rcases hl with ⟨rfl, rfl⟩ | ⟨k, hk, e⟩
 ·exact (h.lets _ (bg hj)).u1
 rw [ay (by omega)] at e;have := gm.1 h.up k j (by omega) hj hk;have := jc e;omega
end
section
open Go.RowKit
attribute [local go_sem ↓] Go.wp_at_zero Go.wp_at_succ
set_option maxRecDepth 100000 in
set_option maxHeartbeats 16000000 in
theorem Ur {W : World} (x : BxV) (next : Nat) (hin : ve W x.v x.rows) (hn : x.name.size ≤ maxLen) (hfl : ∀ z ∈ x.rows, z.x.flags.length ≤ 10000) (hfs : ∀ z ∈ x.rows, Eh z.x.flags) :
  Calls prog 73 #[.agg (bxT.enc x).toArray, .int .u64 next] W (Jh (Im x.b next) W) := by
 obtain ⟨nm, va, nx, hg, rows, xa, xc⟩ := x;dsimp only at hn hfl hfs;have hz1 := (ny W).dz [.string nm, .int .u64 va, .int .u64 nx, .int .u64 hg, .slice xa rows.length xc].toArray 48;generalize hMB : W.heap.size = MB at hz1;generalize hWa : (W.alloc (.cells [.string nm, .int .u64 va, .int .u64 nx, .int .u64 hg, .slice xa rows.length xc].toArray 48)) = Wa at hz1;have hin0 : Hid (∀ w', Below W.heap.size W w' → ve w' (.slice xa rows.length xc) rows) := hi_ (fun w' h => hin.below h);have hname := hi_ (Oq nm hn Wa);obtain ⟨hbB, -⟩ := hz1.box 0 rfl;have x0 : Wa.cell? ⟨MB, 0, none⟩ = some (.string nm) := bc_ hbB 0;replace hfl := hi_ hfl;replace hfs := hi_ hfs;replace hz1 := hi_ hz1;clear hin hbB hn;show Calls prog 73 #[.agg #[.string nm, .int .u64 va, .int .u64 nx, .int .u64 hg, .slice xa rows.length xc], .int .u64 next] W _;generalize hP : Im _ next = Pp;replace hP : Hid (Im (⟨nm, va, nx, hg, rows.map LtV.x⟩ : Bx) next = Pp) := hi_ hP;go_enter func73, ntmps73;go_wp2_with fail;refine hname.out.mono ?_;rintro e w3 ⟨u, rfl, hu, hb3⟩;replace hz1 := hi_ (hz1.out.below hb3);obtain ⟨hbB, -⟩ := hz1.out.box 0 rfl;clear x0;obtain ⟨va2, hva⟩ : ∃ va2 : Nat, va2 = va := ⟨_, rfl⟩;obtain ⟨nx2, hnx⟩ : ∃ nx2 : Nat, nx2 = nx := ⟨_, rfl⟩;obtain ⟨hg2, hhg⟩ : ∃ hg2 : Nat, hg2 = hg := ⟨_, rfl⟩;have x0 : w3.cell? ⟨MB, 0, none⟩ = some (.string nm) := bc_ hbB 0;have x1 : w3.cell? ⟨MB, 1, none⟩ = some (.int .u64 va2) := by rw [hva]; exact bc_ hbB 1
 have x2 : w3.cell? ⟨MB, 2, none⟩ = some (.int .u64 nx2) := by rw [hnx]; exact bc_ hbB 2
 have x3 : w3.cell? ⟨MB, 3, none⟩ = some (.int .u64 hg2) := by rw [hhg]; exact bc_ hbB 3
 have x4 : w3.cell? ⟨MB, 4, none⟩ = some (.slice xa rows.length xc) := bc_ hbB 4;replace hva := hi_ hva;replace hnx := hi_ hnx;replace hhg := hi_ hhg;clear hbB hname hb3;go_upto_region 2 with fail;go_cut [60] (fun v60 wx => v60 = .bool ((!uu nm.data.toList) || ((u.toList != nm.toList)) || (((va2 : Int) == 0)) || (decide ((next : Int) ≤ (va2 : Int))) || (((nx2 : Int) == 0)) || (decide ((4294967296 : Int) < (nx2 : Int))) || (((hg2 : Int) == 0)) || (decide ((9223372036854775807 : Int) < (hg2 : Int))) || (decide ((32 : Int) < (rows.length : Int)))) ∧ Hid (Zoo W wx [df MB [.string nm, .int .u64 va, .int .u64 nx, .int .u64 hg, .slice xa rows.length xc].toArray 48]));case first =>
  cases g1 : !uu nm.data.toList with
  | true =>
   go_wp2_with fail;go_meet;case rel => exact ⟨by simp only [g1, ic, iw, ig, je], hz1⟩
  | false =>
   cases g2 : (u.toList != nm.toList) with
   | true =>
    have g2' : (u.toList == nm.toList) = false := (by simpa [bne] using g2);go_wp2_with fail;go_meet;case rel => exact ⟨by simp only [g1, g2, ic, iw, ig, je], hz1⟩
   | false =>
    have g2' : (u.toList == nm.toList) = true := (by simpa [bne] using g2);cases g3 : ((va2 : Int) == 0) with
    | true =>
     go_wp2_with fail;go_meet;case rel => exact ⟨by simp only [g1, g2, g3, ic, iw, ig, je], hz1⟩
    | false =>
     cases g4 : decide ((next : Int) ≤ (va2 : Int)) with
     | true =>
      have g4' := dm g4;replace g4 := hi_ g4;go_wp2_with fail;go_meet;case rel => exact ⟨by simp only [g1, g2, g3, g4.out, ic, iw, ig, je], hz1⟩
     | false =>
      have g4'' : decide (next ≤ va2) = false := aj (by have h := f_ g4; omega);cases g5 : ((nx2 : Int) == 0) with
      | true =>
       go_wp2_with fail;go_meet;case rel => exact ⟨by simp only [g1, g2, g3, g4, g5, ic, iw, ig, je], hz1⟩
      | false =>
       cases g6 : decide ((4294967296 : Int) < (nx2 : Int)) with
       | true =>
        have g6' := dm g6;replace g6 := hi_ g6;go_wp2_with fail;go_meet;case rel => exact ⟨by simp only [g1, g2, g3, g4, g5, g6.out, ic, iw, ig, je], hz1⟩
       | false =>
        cases g7 : ((hg2 : Int) == 0) with
        | true =>
         go_wp2_with fail;go_meet;case rel => exact ⟨by simp only [g1, g2, g3, g4, g5, g6, g7, ic, iw, ig, je], hz1⟩
        | false =>
         cases g8 : decide ((9223372036854775807 : Int) < (hg2 : Int)) with
         | true =>
          have g8' := dm g8;replace g8 := hi_ g8;go_wp2_with fail;go_meet;case rel => exact ⟨by simp only [g1, g2, g3, g4, g5, g6, g7, g8.out, ic, iw, ig, je], hz1⟩
         | false =>
          cases g9 : decide ((32 : Int) < (rows.length : Int)) with
          | true =>
           have g9' := dm g9;replace g9 := hi_ g9;go_wp2_with fail;go_meet;case rel => exact ⟨by simp only [g1, g2, g3, g4, g5, g6, g7, g8, g9.out, ic, iw, ig, je], hz1⟩
          | false =>
           go_wp2_with fail;go_meet;case rel => exact ⟨by simp only [g1, g2, g3, g4, g5, g6, g7, g8, g9, ic, iw, ig, je], hz1⟩
 case rest =>
 clear hz1 x0 x1 x2 x3 x4;obtain ⟨rfl, hz1⟩ := hcut;obtain ⟨B, hB⟩ : ∃ B, ((!uu nm.data.toList) || ((u.toList != nm.toList)) || (((va2 : Int) == 0)) || (decide ((next : Int) ≤ (va2 : Int))) || (((nx2 : Int) == 0)) || (decide ((4294967296 : Int) < (nx2 : Int))) || (((hg2 : Int) == 0)) || (decide ((9223372036854775807 : Int) < (hg2 : Int))) || (decide ((32 : Int) < (rows.length : Int)))) = B := ⟨_, rfl⟩;rw [hB];cases B with
 | true =>
  have hno : Hid (false = true ↔ Pp) := hi_ (by
   rw [← hP.out];refine Ai (fun h => by cases h) (fun h => ?_);have g2 : (u.toList != nm.toList) = false := (by rw [bne, Ec hu (hi_ rfl), h.nm]; simp);have g3 : ((va2 : Int) == 0) = false := cz.2 (by have := h.v1; dsimp only at this; have := hva.out; have := hnx.out; have := hhg.out; omega);have g4 : decide ((next : Int) ≤ (va2 : Int)) = false := aj (by have := h.v2; dsimp only at this; have := hva.out; have := hnx.out; have := hhg.out; omega);have g5 : ((nx2 : Int) == 0) = false := cz.2 (by have := h.n1; dsimp only at this; have := hva.out; have := hnx.out; have := hhg.out; omega);have g6 : decide ((4294967296 : Int) < (nx2 : Int)) = false := aj (by have := h.n2; dsimp only at this; have := hva.out; have := hnx.out; have := hhg.out; omega);have g7 : ((hg2 : Int) == 0) = false := cz.2 (by have := h.h1; dsimp only at this; have := hva.out; have := hnx.out; have := hhg.out; omega);have g8 : decide ((9223372036854775807 : Int) < (hg2 : Int)) = false := aj (by have := h.h2; dsimp only at this; have := hva.out; have := hnx.out; have := hhg.out; omega);have g9 : decide ((32 : Int) < (rows.length : Int)) = false := aj (by have := h.len; dsimp only at this; rw [az] at this; omega);have g1 : (!uu nm.data.toList) = false := (by rw [h.ok]; rfl);rw [g1, g2, g3, g4, g5, g6, g7, g8, g9] at hB;exact absurd hB (by simp))
  have hbF := hi_ hz1.out.bel;clear hB hz1;go_wp2_with fail;go_ret;exact ⟨false, rfl, hno, hbF⟩
 | false =>
  simp only [Cs] at hB;replace hB := hi_ hB;have hnx2 := hnx.out;have hBx : Hid (∀ h : (∀ z ∈ rows.map LtV.x, Py z ⟨nm, va, nx, hg, rows.map LtV.x⟩) ∧ (rows.map LtV.x).Pairwise (fun x y => x.uid < y.uid), Im (⟨nm, va, nx, hg, rows.map LtV.x⟩ : Bx) next) := hi_ (fun h => by
   obtain ⟨⟨⟨⟨⟨⟨⟨⟨h1, h2⟩, h3⟩, h4⟩, h5⟩, h6⟩, h7⟩, h8⟩, h9⟩ := hB.out;have e1 := hva.out;have e3 := hhg.out;have h4' := f_ h4;have h6' := f_ h6;have h8' := f_ h8;have h9' := f_ h9;have h3' := cz.1 h3;have h5' := cz.1 h5;have h7' := cz.1 h7;have hnm : Kw nm.data.toList = nm.data.toList := by
    have : (u.toList == nm.toList) = true := (by simpa [bne] using h2);rw [Ec hu (hi_ rfl)] at this;exact eq_of_beq this
   have hok : uu nm.data.toList = true := (by simpa using h1);exact ⟨hok, hnm, by dsimp only; omega, by dsimp only; omega, by dsimp only; omega, by dsimp only; omega, by dsimp only; omega, by dsimp only; omega, by dsimp only; rw [az]; omega, h.1, h.2⟩)
  have h32 : rows.length ≤ 32 := by
   have h9' := f_ hB.out.2;omega
  clear hva hnx hhg hnx2 hB hu va2 nx2 hg2;obtain ⟨hbB, -⟩ := hz1.out.box 0 rfl;have x4 : wc.cell? ⟨MB, 4, none⟩ = some (.slice xa rows.length xc) := bc_ hbB 4;clear hbB;go_wp2_with fail;go_loopw [7, 8] (fun v7 v8 wr => ∃ j last : Nat, v8 = .int .i64 j ∧ v7 = .int .u64 last ∧ j ≤ rows.length ∧ Hid (Qx (rows.map LtV.x) ⟨nm, va, nx, hg, rows.map LtV.x⟩ j last) ∧ Hid (j = 0 ∧ last = 0 ∨ ∃ k, k < j ∧ (rows.map LtV.x)[k]?.map Lt.uid = some last) ∧ Hid (Zoo W wr [df MB [.string nm, .int .u64 va, .int .u64 nx, .int .u64 hg, .slice xa rows.length xc].toArray 48])) (fun _ v8 _ => rows.length - (intOf v8).toNat);case atStart => exact ⟨0, 0, rfl, rfl, dw _, hi_ (Qx.zero _ _), hi_ (.inl ⟨rfl, rfl⟩), hz1⟩
  case round =>
   clear x4 hz1;obtain ⟨j, last, rfl, rfl, hj, hup, hlast, hz⟩ := hrel;obtain ⟨hbB, -⟩ := hz.out.box 0 rfl;have x4 : wr.cell? ⟨MB, 4, none⟩ = some (.slice xa rows.length xc) := bc_ hbB 4;clear hbB;by_cases hlt : j < rows.length
   ·have hin1 := hin0.out wr hz.out.bel;obtain ⟨b, bo, cap, hv, -, hblt, hcells⟩ := ltT.ow hin1.1 hlt;injection hv with hv1 hv2 hv3;subst hv1 hv3;have hzm := bg hlt;have hlm : j < (rows.map LtV.x).length := (by rw [az]; exact hlt);have hfi := hin1.2 _ hzm;have hfl1 := hfl.out _ hzm;have hfs1 := hfs.out _ hzm;have hstep : ∀ h1 : Py rows[j].x ⟨nm, va, nx, hg, rows.map LtV.x⟩, last < rows[j].x.uid → Qx (rows.map LtV.x) ⟨nm, va, nx, hg, rows.map LtV.x⟩ (j + 1) rows[j].x.uid := fun h1 h2 => by
     have := hup.out.step hlm (by rw [ou]; exact h1) (by rw [ou]; exact h2);rwa [ou] at this
    have hneed : Im (⟨nm, va, nx, hg, rows.map LtV.x⟩ : Bx) next → Py rows[j].x ⟨nm, va, nx, hg, rows.map LtV.x⟩ ∧ last < rows[j].x.uid := fun h => by
     have h1 := h.lets _ (bg hlm);have h2 := h.last hlm hlast.out;dsimp only at h1 h2;rw [ou] at h1 h2;exact ⟨h1, h2⟩
    have hnext : (rows.map LtV.x)[j]?.map Lt.uid = some rows[j].x.uid := (by rw [ji, ay hlt]; rfl);obtain ⟨z, hz'⟩ : ∃ z, rows[j] = z := ⟨_, rfl⟩;rw [hz'] at hcells hfi hfl1 hfs1 hstep hneed hnext;have r0 : wr.cell? ⟨b, bo + (j * 5 + 0), none⟩ = some (.int .u64 z.x.uid) := hcells 0 _ rfl;have r1 : wr.cell? ⟨b, bo + (j * 5 + 1), none⟩ = some (.slice z.a z.x.flags.length z.c) := hcells 1 _ rfl;have r2 : wr.cell? ⟨b, bo + (j * 5 + 2), none⟩ = some (.int .u64 z.x.mod) := hcells 2 _ rfl;have r3 : wr.cell? ⟨b, bo + (j * 5 + 3), none⟩ = some (.string z.x.hash) := hcells 3 _ rfl;have r4 : wr.cell? ⟨b, bo + (j * 5 + 4), none⟩ = some (.int .u64 z.x.size) := hcells 4 _ rfl;rw [← qa] at r0 r1 r2 r3 r4;rw [Cz] at r0;replace x4 : wr.cell? ⟨MB, 4, none⟩ = some (.slice (some ⟨b, bo, none⟩) rows.length xc) := x4;have hj0 : (0 : Int) ≤ (j : Int) := (by omega);have hj1 : (j : Int) < (rows.length : Int) := (by omega);have hzb := hz.out.dz [.int .u64 z.x.uid, .slice z.a z.x.flags.length z.c, .int .u64 z.x.mod, .string z.x.hash, .int .u64 z.x.size].toArray 50;have hbl := ae wr.heap.size wr;have hfi2 := jf hfi (hbl.alloc (ax _) (.cells [.int .u64 z.x.uid, .slice z.a z.x.flags.length z.c, .int .u64 z.x.mod, .string z.x.hash, .int .u64 z.x.size].toArray 50));have hright : Hid (Calls prog 66 #[.slice z.a z.x.flags.length z.c] (wr.alloc (.cells #[.int .u64 z.x.uid, .slice z.a z.x.flags.length z.c, .int .u64 z.x.mod, .string z.x.hash, .int .u64 z.x.size] 50)) fun e w' => e = .returned (.bool (kr z.x.flags)) ∧ Hid (Below (wr.alloc (.cells #[.int .u64 z.x.uid, .slice z.a z.x.flags.length z.c, .int .u64 z.x.mod, .string z.x.hash, .int .u64 z.x.size] 50)).heap.size (wr.alloc (.cells #[.int .u64 z.x.uid, .slice z.a z.x.flags.length z.c, .int .u64 z.x.mod, .string z.x.hash, .int .u64 z.x.size] 50)) w')) := hi_ (Bq _ z.x.flags _ hfi2 (by omega) hfs1);replace hzb := hi_ hzb;replace hstep := hi_ hstep;replace hneed := hi_ hneed;replace hnext := hi_ hnext;clear hcells hfi hfl1 hfs1 hin1 hzm hlm hz' hbl hfi2 hz;go_upto_region 9 with fail;generalize hLbE : wr.heap.size = Lb at hzb hright ⊢;generalize hWl : (wr.alloc (.cells #[.int .u64 z.x.uid, .slice z.a z.x.flags.length z.c, .int .u64 z.x.mod, .string z.x.hash, .int .u64 z.x.size] 50)) = wl at hzb hright ⊢;have hz3 := hzb;clear hzb hLbE hWl r0 r1 r2 r3 r4 x4;obtain ⟨hbL, -⟩ := hz3.out.box 0 rfl;obtain ⟨hbB, -⟩ := hz3.out.box 1 rfl;obtain ⟨y0, y1, y2, y3, y4⟩ := bx5 hbL;obtain ⟨x0, x1, x2, x3, x4⟩ := bx5 hbB;go_cut [112] (fun v112 wx => v112 = .bool ((decide ((z.x.uid : Int) ≤ (last : Int))) || (decide ((nx : Int) ≤ (z.x.uid : Int))) || (!kr z.x.flags) || (((z.x.mod : Int) == 0)) || (decide ((hg : Int) < (z.x.mod : Int))) || (((z.x.hash.size : Int) != 32)) || (decide ((4096 : Int) < (z.x.size : Int)))) ∧ Hid (Zoo W wx [df Lb [.int .u64 z.x.uid, .slice z.a z.x.flags.length z.c, .int .u64 z.x.mod, .string z.x.hash, .int .u64 z.x.size].toArray 50, df MB [.string nm, .int .u64 va, .int .u64 nx, .int .u64 hg, .slice (some ⟨b, bo, none⟩) rows.length xc].toArray 48]));case first =>
     cases l1 : decide ((z.x.uid : Int) ≤ (last : Int)) with
     | true =>
      have l1' := dm l1;replace l1 := hi_ l1;go_wp2_with fail;go_meet;case rel => exact ⟨by simp only [l1.out, ic, iw, ig, je], hz3⟩
     | false =>
      have l1'' : decide (z.x.uid ≤ last) = false := aj (by have h := f_ l1; omega);cases l2 : decide ((nx : Int) ≤ (z.x.uid : Int)) with
      | true =>
       have l2' := dm l2;replace l2 := hi_ l2;go_wp2_with fail;go_meet;case rel => exact ⟨by simp only [l1, l2.out, ic, iw, ig, je], hz3⟩
      | false =>
       have l2'' : decide (nx ≤ z.x.uid) = false := aj (by have h := f_ l2; omega);go_wp2_with fail;refine hright.out.mono ?_;rintro e w5 ⟨rfl, hb5⟩;have hz4 := hz3.out.below hb5.out;clear y0 y1 y2 y3 y4 x0 x1 x2 x3 x4 hbL hbB;obtain ⟨hbL, -⟩ := hz4.box 0 rfl;obtain ⟨hbB, -⟩ := hz4.box 1 rfl;obtain ⟨y0, y1, y2, y3, y4⟩ := bx5 hbL;obtain ⟨x0, x1, x2, x3, x4⟩ := bx5 hbB;replace hz4 := hi_ hz4;clear hright hbL hbB;cases l3 : !kr z.x.flags with
       | true =>
        go_wp2_with fail;go_meet;case rel => exact ⟨by simp only [l1, l2, l3, ic, iw, ig, je], hz4⟩
       | false =>
        cases l4 : ((z.x.mod : Int) == 0) with
        | true =>
         go_wp2_with fail;go_meet;case rel => exact ⟨by simp only [l1, l2, l3, l4, ic, iw, ig, je], hz4⟩
        | false =>
         cases l5 : decide ((hg : Int) < (z.x.mod : Int)) with
         | true =>
          have l5' := dm l5;replace l5 := hi_ l5;go_wp2_with fail;go_meet;case rel => exact ⟨by simp only [l1, l2, l3, l4, l5.out, ic, iw, ig, je], hz4⟩
         | false =>
          have l5'' : decide (hg < z.x.mod) = false := aj (by have h := f_ l5; omega);cases l6 : ((z.x.hash.size : Int) != 32) with
          | true =>
           go_wp2_with fail;go_meet;case rel => exact ⟨by simp only [l1, l2, l3, l4, l5, l6, ic, iw, ig, je], hz4⟩
          | false =>
           cases l7 : decide ((4096 : Int) < (z.x.size : Int)) with
           | true =>
            have l7' := dm l7;replace l7 := hi_ l7;go_wp2_with fail;go_meet;case rel => exact ⟨by simp only [l1, l2, l3, l4, l5, l6, l7.out, ic, iw, ig, je], hz4⟩
           | false =>
            go_wp2_with fail;go_meet;case rel => exact ⟨by simp only [l1, l2, l3, l4, l5, l6, l7, ic, iw, ig, je], hz4⟩
    case rest =>
    clear hz3 y0 y1 y2 y3 y4 x0 x1 x2 x3 x4 hright;obtain ⟨rfl, hz3⟩ := hcut;obtain ⟨B, hB⟩ : ∃ B, ((decide ((z.x.uid : Int) ≤ (last : Int))) || (decide ((nx : Int) ≤ (z.x.uid : Int))) || (!kr z.x.flags) || (((z.x.mod : Int) == 0)) || (decide ((hg : Int) < (z.x.mod : Int))) || (((z.x.hash.size : Int) != 32)) || (decide ((4096 : Int) < (z.x.size : Int)))) = B := ⟨_, rfl⟩;rw [hB];cases B with
    | true =>
     have hno : Hid (false = true ↔ Pp) := hi_ (by
      rw [← hP.out];refine Ai (fun h => by cases h) (fun h => ?_);obtain ⟨h1, h2⟩ := hneed.out h;have l1 : decide ((z.x.uid : Int) ≤ (last : Int)) = false := aj (by omega);have l2 : decide ((nx : Int) ≤ (z.x.uid : Int)) = false := aj (by have := h1.u2; dsimp only at this; omega);have l3 : (!kr z.x.flags) = false := (by rw [h1.fl]; rfl);have l4 : ((z.x.mod : Int) == 0) = false := cz.2 (by have := h1.m1; omega);have l5 : decide ((hg : Int) < (z.x.mod : Int)) = false := aj (by have := h1.m2; dsimp only at this; omega);have l6 : ((z.x.hash.size : Int) != 32) = false := (by rw [h1.hs]; rfl);have l7 : decide ((4096 : Int) < (z.x.size : Int)) = false := aj (by have := h1.sz; omega);rw [l1, l2, l3, l4, l5, l6, l7] at hB;exact absurd hB (by simp))
     have hbF := hi_ hz3.out.bel;clear hB hz3 hup hlast hBx hstep hneed hnext;go_wp2_with fail;go_ret;exact ⟨false, rfl, hno, hbF⟩
    | false =>
     simp only [Cs] at hB;obtain ⟨⟨⟨⟨⟨⟨l1, l2⟩, l3⟩, l4⟩, l5⟩, l6⟩, l7⟩ := hB;have hlp : Py z.x ⟨nm, va, nx, hg, rows.map LtV.x⟩ ∧ last < z.x.uid := by
      have l1' := f_ l1;have l2' := f_ l2;have l4' := cz.1 l4;have l5' := f_ l5;have l6' : z.x.hash.size = 32 := Int.ofNat.inj (show (z.x.hash.size : Int) = 32 by simpa [bne] using l6);have l7' := f_ l7;exact ⟨⟨by omega, by dsimp only; omega, by simpa using l3, by omega, by dsimp only; omega, l6', by omega⟩, by omega⟩
     have hup2 := hi_ (hstep.out hlp.1 hlp.2);have hlast2 : Hid (j + 1 = 0 ∧ z.x.uid = 0 ∨ ∃ k, k < j + 1 ∧ (rows.map LtV.x)[k]?.map Lt.uid = some z.x.uid) := hi_ (.inr ⟨j, by omega, hnext.out⟩);obtain ⟨hbL, -⟩ := hz3.out.box 0 rfl;have y0 : wc.cell? ⟨Lb, 0, none⟩ = some (.int .u64 z.x.uid) := bc_ hbL 0;have hz4 := hi_ hz3.out.tail;clear l1 l2 l3 l4 l5 l6 l7 hlp hbL hz3 hup hlast hstep hneed hnext;go_wp2_with fail;go_roundw;case rel => exact ⟨j + 1, z.x.uid, by go_num, rfl, by omega, hup2, hlast2, hz4⟩
     case measure => simp [intOf] <;> omega
   have hj1 : (rows.length : Int) ≤ (j : Int) := (by omega);have hj2 : ¬ ((j : Int) < (rows.length : Int)) := (by omega);have hyes : Hid Pp := hi_ (by
    rw [← hP.out];have hje : j = (rows.map LtV.x).length := (by rw [az]; omega);have h1 := hup.out;unfold Qx at h1;rw [hje, gp] at h1;exact hBx.out ⟨h1.1, h1.2.1⟩)
   have hbF := hi_ hz.out.bel;clear hup hlast hBx hz;go_wp2_with fail;go_ret;exact ⟨true, rfl, hi_ (Ai (fun _ => hyes.out) (fun _ => rfl)), hbF⟩
end
section
open Go.RowKit
attribute [local go_sem ↓] Go.wp_at_zero Go.wp_at_succ
def Zo (W : World) (hs : List Hm) (node : Int) (e : Ending) (w' : World) : Prop := e = .returned (.tuple #[.agg (y8 ((hs.find? (fun x => x.node == node)).getD ⟨0, 0, 0⟩)).toArray, .bool (hs.find? (fun x => x.node == node)).isSome]) ∧ Hid (Below W.heap.size W w')
set_option maxRecDepth 100000 in
set_option maxHeartbeats 8000000 in
theorem Ms {W : World} (ab ah as_ : Option Addr) (nb cb ch ns cs nv nse sw : Nat) (hs : List Hm) (node : Int) (hh : F_ W (.slice ah hs.length ch) hs) (hl : hs.length ≤ 100000) :
  Calls prog 100 #[yg (.slice ab nb cb) nv (.slice ah hs.length ch) (.slice as_ ns cs) nse sw, .int .i64 node] W (Zo W hs node) := by
 have hz1 := ((ny W).dz [.slice ab nb cb, .int .u64 nv, .slice ah hs.length ch, .slice as_ ns cs, .int .u64 nse, .int .u64 sw].toArray 27);generalize hMB : W.heap.size = MB at hz1;generalize hWa : (W.alloc (.cells [.slice ab nb cb, .int .u64 nv, .slice ah hs.length ch, .slice as_ ns cs, .int .u64 nse, .int .u64 sw].toArray 27)) = Wa at hz1;have hz2 := hz1.dz ax_.toArray 67;unfold ax_ at hz2;generalize hHB : Wa.heap.size = HB at hz2;generalize hWb : (Wa.alloc (.cells [.int .i64 0, .int .u64 0, .int .u64 0].toArray 67)) = Wb at hz2;have hh0 : Hid (∀ w', Below W.heap.size W w' → F_ w' (.slice ah hs.length ch) hs) := hi_ (fun w' h => jf hh h);replace hz2 := hi_ hz2;clear hh hz1;unfold yg;go_enter func100, ntmps100;go_wp2_with fail;clear hMB hWa hHB hWb;go_loopw [6] (fun v6 wr => ∃ j : Nat, v6 = .int .i64 j ∧ j ≤ hs.length ∧ Hid (∀ k (h : k < hs.length), k < j → (hs[k].node == node) = false) ∧ wr = Wb) (fun v6 _ => hs.length - (intOf v6).toNat);case atStart => exact ⟨0, rfl, dw _, hi_ (fun k h hk => by omega), rfl⟩
 case round =>
  obtain ⟨j, rfl, hj, hno, rfl⟩ := hrel;obtain ⟨hbM, -⟩ := hz2.out.box 1 rfl;obtain ⟨hbH, -⟩ := hz2.out.box 0 rfl;have x2 : wr.cell? ⟨MB, 2, none⟩ = some (.slice ah hs.length ch) := bc_ hbM 2;have h0 : wr.cell? ⟨HB, 0, none⟩ = some (.int .i64 0) := bc_ hbH 0;have h1 : wr.cell? ⟨HB, 1, none⟩ = some (.int .u64 0) := bc_ hbH 1;have h2 : wr.cell? ⟨HB, 2, none⟩ = some (.int .u64 0) := bc_ hbH 2;have f0 := bf_ hbH 0;have f1 := bf_ hbH 1;have f2 := bf_ hbH 2;clear hbM hbH;by_cases hlt : j < hs.length
  ·have hin := hh0.out wr hz2.out.bel;obtain ⟨b, bo, cap, hv, -, hblt, hcells⟩ := hmT.ow hin hlt;injection hv with hv1 hv2 hv3;subst hv1 hv3;obtain ⟨x, hx⟩ : ∃ x, hs[j] = x := ⟨_, rfl⟩;rw [hx] at hcells;have r0 : wr.cell? ⟨b, bo + (j * 3 + 0), none⟩ = some (.int .i64 x.node) := hcells 0 _ rfl;have r1 : wr.cell? ⟨b, bo + (j * 3 + 1), none⟩ = some (.int .u64 x.life) := hcells 1 _ rfl;have r2 : wr.cell? ⟨b, bo + (j * 3 + 2), none⟩ = some (.int .u64 x.ek) := hcells 2 _ rfl;rw [← qa] at r0 r1 r2;rw [Cz] at r0;have hj0 : (0 : Int) ≤ (j : Int) := (by omega);have hj1 : (j : Int) < (hs.length : Int) := (by omega);replace hx := hi_ hx;clear hcells hin;cases hq : (x.node == node) with
   | true =>
    have hf : Hid (hs.find? (fun x => x.node == node) = some x) := hi_ (by
     rw [ww];exact ⟨hq, j, hlt, hx.out, fun k hk => by rw [hno.out k (by omega) hk]; rfl⟩)
    have hz4 := ((hz2.out.il 0 rfl 0 (.int .i64 x.node)).il 0 rfl 1 (.int .u64 x.life)).il 0 rfl 2 (.int .u64 x.ek);have hbF := hi_ (hz4.box 0 rfl).1;have hbel := hi_ hz4.bel;clear hno hz4 hz2;go_wp2_with fail;refine bodyPost_ret (xq rfl _ _ HB (y8 x) rfl hbF.out isAgg67 sizeOf67) rfl ?_;exact ⟨by rw [hf.out]; rfl, hbel⟩
   | false =>
    have hno2 : Hid (∀ k (h : k < hs.length), k < j + 1 → (hs[k].node == node) = false) := hi_ (fun k h hk => by
     by_cases e : k = j
     ·subst e; rw [hx.out]; exact hq
     exact hno.out k h (by omega))
    clear hno;go_wp2_with fail;go_roundw;case rel => exact ⟨j + 1, by go_num, by omega, hno2, trivial⟩
    case measure => simp [intOf] <;> omega
  have hj1 : (hs.length : Int) ≤ (j : Int) := by omega
  have hj2 : ¬ ((j : Int) < (hs.length : Int)) := by omega
  have hf : Hid (hs.find? (fun x => x.node == node) = none) := hi_ (by
   rw [uk];intro x hx;obtain ⟨k, hk, rfl⟩ := gu.1 hx;rw [hno.out k hk (by omega)]; simp)
  have hz4 := ((hz2.out.il 0 rfl 0 (.int .i64 0)).il 0 rfl 1 (.int .u64 0)).il 0 rfl 2 (.int .u64 0);have hbF := hi_ (hz4.box 0 rfl).1;have hbel := hi_ hz4.bel;clear hno hz4 hz2;go_wp2_with fail;refine bodyPost_ret (xq rfl _ _ HB (y8 ⟨0, 0, 0⟩) rfl hbF.out isAgg67 sizeOf67) rfl ?_;exact ⟨by rw [hf.out]; rfl, hbel⟩
end
section
open Go.RowKit
attribute [local go_sem ↓] Go.wp_at_zero Go.wp_at_succ
def ocZ : List Value := [.int .i64 0, .int .u64 0, .int .u64 0, .slice none 0 0, .slice none 0 0]
def ocN (n : Int) : List Value := [.int .i64 n, .int .u64 0, .int .u64 0, .slice none 0 0, .slice none 0 0]
def mlZ : List Value := [.slice none 0 0, .int .u64 0, .slice none 0 0, .slice none 0 0, .int .u64 0, .int .u64 0]
theorem Tc (W : World) (n : Int) : Cf W (.agg (ocN n).toArray) (ocE n) := ⟨none, 0, none, 0, rfl, ⟨_, _, rfl, .inl rfl⟩, ⟨_, _, rfl, .inl rfl⟩⟩
theorem xy (a : Option Addr) (b c : Nat) (d : Nat) (e : Option Addr) (f g : Nat) (h : Option Addr) (i j : Nat) (k l : Nat) : ∀ v ∈ ([.slice a b c, .int .u64 (d : Int), .slice e f g, .slice h i j, .int .u64 (k : Int), .int .u64 (l : Int)] : List Value), v.oneCell' = true := fun v hv => by
 simp only [d_, qb, or_false] at hv;rcases hv with rfl | rfl | rfl | rfl | rfl | rfl <;> rfl
theorem j5 (n : Int) : ∀ v ∈ ocN n, v.oneCell' = true := fun v hv => by
 unfold ocN at hv;simp only [d_, qb, or_false] at hv;rcases hv with rfl | rfl | rfl | rfl | rfl <;> rfl
set_option maxRecDepth 100000 in
set_option maxHeartbeats 8000000 in
theorem xh {W : World} (C : List Value) (hl : C.length = 6) (h1 : ∀ v ∈ C, v.oneCell' = true) (n : Int) :
  Calls prog 46 #[.agg C.toArray, .int .i64 n] W fun e w' => e = .returned (.tuple #[.agg C.toArray, .agg (ocN n).toArray]) ∧ Hid (Below W.heap.size W w') := by
 have hsz : ∀ w, (Go.sizeOf 27).run prog w = .ok C.length w := fun w => by rw [hl]; exact sizeOf27 w
 have hz1 := ((ny W).dz C.toArray 27);generalize hMB : W.heap.size = MB at hz1;generalize hWa : (W.alloc (.cells C.toArray 27)) = Wa at hz1;have hz2 := hz1.dz mlZ.toArray 27;unfold mlZ at hz2;generalize hRB : Wa.heap.size = RB at hz2;generalize hWb : (Wa.alloc (.cells [.slice none 0 0, .int .u64 0, .slice none 0 0, .slice none 0 0, .int .u64 0, .int .u64 0].toArray 27)) = Wb at hz2;have hz3 := hz2.dz ocZ.toArray 35;unfold ocZ at hz3;generalize hOB : Wb.heap.size = OB at hz3;generalize hWc : (Wb.alloc (.cells [.int .i64 0, .int .u64 0, .int .u64 0, .slice none 0 0, .slice none 0 0].toArray 35)) = Wc at hz3;clear hz1 hz2;replace h1 := hi_ h1;replace hsz := hi_ hsz;replace hl := hi_ hl;go_enter func46, ntmps46;go_upto_region 1 with fail;clear hWa hRB hWb hOB hWc;replace hMB := hi_ hMB;obtain ⟨hbM, -⟩ := hz3.box 2 rfl;have hld := hi_ (fun j v (hj : C[j]? = some v) => (show Wc.cell? ⟨MB, 0 + j, none⟩ = some v by rw [di, bc_ hbM j, ai]; exact hj));have hs1 := (hz3.m_ 1 rfl);have hs1' := hi_ (bu (fun j (hj : j < C.length) => hs1.1 j (by rw [hl.out] at hj; exact hj)) hs1.2);have hz4 := hz3.mq 1 rfl C hl.out;have hs2 := hi_ (hz4.m_ 0 rfl);have hzF := hi_ (hz4.mq 0 rfl (ocN n) rfl);clear hbM hz3 hz4 hs1;go_wp2_with (first
  | refine Dk rfl 27 (.tmp 2) rfl MB 0 C (by rfl) isAgg27 hsz.out hld.out ?_
  | (refine ru rfl 27 (.tmp 4) (.tmp 6) rfl RB 0 C (by rfl) (by rfl) hsz.out h1.out hs1'.out.1 hs1'.out.2 ?_; refine Ae ?_))
 refine hi_ ?_;generalize (Wc.setCells RB 0 C) = wd at hzF hs2 ⊢;go_wp2_with (refine ru rfl 35 (.tmp 5) (.tmp 8) rfl OB 0 (ocN n) (by rfl) (by rfl) sizeOf35 (j5 n) hs2.out.1 hs2.out.2 ?_; refine Ae ?_);refine hi_ ?_;generalize (wd.setCells OB 0 (ocN n)) = we at hzF ⊢;clear hs1' hs2 hld;go_wp2_with fail;refine bodyPost_ret (Da rfl _ _ RB OB C (ocN n) rfl rfl (hzF.out.box 1 rfl).1 (hzF.out.box 0 rfl).1 isAgg27 hsz.out isAgg35 sizeOf35) rfl ?_;rw [← hMB.out];exact ⟨rfl, hi_ hzF.out.bel⟩
end
section
open Go.RowKit
attribute [local go_sem ↓] Go.wp_at_zero Go.wp_at_succ
theorem Bw {W : World} {a : Option Addr} {c : Nat} {bs : List BxV} (h : zo W (.slice a bs.length c) bs) {j : Nat} (hj : j < bs.length) : ∃ b bo, a = some ⟨b, bo, none⟩ ∧ ∀ W', Below W.heap.size W W' → ∀ r u, (rq bs[j])[r]? = some u → W'.cell? ⟨b, bo + j * 5 + r, none⟩ = some u := by
 obtain ⟨b, bo, cap, hv, -, hbl, hc⟩ := bxT.ow h.1 hj;injection hv with hv1 hv2 hv3;refine ⟨b, bo, hv1, fun W' hb r u hu => ?_⟩;rw [qa];exact (hb.cell (p := ⟨b, bo + (j * 5 + r), none⟩) hbl).trans (hc r u hu)
set_option maxRecDepth 100000 in
set_option maxHeartbeats 8000000 in
theorem Ck {W : World} (C : List Value) (ab : Option Addr) (cb : Nat) (bs : List BxV) (name : ByteArray) (hC : C[0]? = some (.slice ab bs.length cb)) (hin : zo W (.slice ab bs.length cb) bs) (hl : bs.length ≤ 100000) :
  Calls prog 102 #[.agg C.toArray, .string name] W fun e w' => e = .returned (.int .i64 (ry (fun x => x.name.toList == name.toList) (bs.map BxV.b))) ∧ Hid (Below W.heap.size W w') := by
 have hz1 := ((ny W).dz C.toArray 27);generalize hMB : W.heap.size = MB at hz1;generalize hWa : (W.alloc (.cells C.toArray 27)) = Wa at hz1;have hin0 : Hid (∀ w', Below W.heap.size W w' → zo w' (.slice ab bs.length cb) bs) := hi_ (fun w' h => hin.below h);replace hz1 := hi_ hz1;replace hC := hi_ hC;clear hin;go_enter func102, ntmps102;go_upto_region 1 with fail;clear hWa;replace hMB := hi_ hMB;go_wp2_with fail;go_loopw [5] (fun v5 wr => ∃ j : Nat, v5 = .int .i64 j ∧ j ≤ bs.length ∧ Hid (∀ k (h : k < bs.length), k < j → (bs[k].name.toList == name.toList) = false) ∧ wr = Wa) (fun v5 _ => bs.length - (intOf v5).toNat);case atStart => exact ⟨0, rfl, dw _, hi_ (fun k h hk => by omega), rfl⟩
 case round =>
  obtain ⟨j, rfl, hj, hno, rfl⟩ := hrel;obtain ⟨hbM, -⟩ := hz1.out.box 0 rfl;have x0 : wr.cell? ⟨MB, 0, none⟩ = some (.slice ab bs.length cb) := by rw [bc_ hbM 0, ai]; exact hC.out
  have hbel := hi_ hz1.out.bel;clear hbM;by_cases hlt : j < bs.length
  ·obtain ⟨b, bo, hab, hc⟩ := Bw (hin0.out wr hz1.out.bel) hlt;obtain ⟨z, hzz⟩ : ∃ z, bs[j] = z := ⟨_, rfl⟩;rw [hzz] at hc;have c0 : wr.cell? ⟨b, bo + j * 5, none⟩ = some (.string z.name) := hc wr (ae _ _) 0 _ rfl;rw [hab] at x0;have hj0 : (0 : Int) ≤ (j : Int) := (by omega);have hj1 : (j : Int) < (bs.length : Int) := (by omega);replace hzz := hi_ hzz;clear hc hab;cases hq : (z.name.toList == name.toList) with
   | true =>
    have hf : Hid (ry (fun x => x.name.toList == name.toList) (bs.map BxV.b) = (j : Int)) := hi_ (by
     rw [Ph];exact Bc hlt (by show (bs[j].name.toList == name.toList) = true; rw [hzz.out]; exact hq) (fun k hk => hno.out k (by omega) hk))
    clear hno;go_wp2_with fail;go_ret;rw [hf.out];first | exact ⟨rfl, hbel⟩ | (rw [← hMB.out]; exact ⟨rfl, hbel⟩)
   | false =>
    have hno2 : Hid (∀ k (h : k < bs.length), k < j + 1 → (bs[k].name.toList == name.toList) = false) := hi_ (fun k h hk => by
     by_cases e : k = j
     ·subst e; rw [hzz.out]; exact hq
     exact hno.out k h (by omega))
    clear hno;go_wp2_with fail;go_roundw;case rel => exact ⟨j + 1, by go_num, by omega, hno2, trivial⟩
    case measure => simp [intOf] <;> omega
  have hj2 : ¬ ((j : Int) < (bs.length : Int)) := by omega
  have hf : Hid (ry (fun x => x.name.toList == name.toList) (bs.map BxV.b) = -1) := hi_ (by
   rw [Ph];exact Bd (fun k hk => hno.out k hk (by omega)))
  clear hno;go_wp2_with fail;go_ret;rw [hf.out];first | exact ⟨rfl, hbel⟩ | (rw [← hMB.out]; exact ⟨rfl, hbel⟩)
theorem Hu {W : World} {a : Option Addr} {c : Nat} {ss : List St} (h : z_ W (.slice a ss.length c) ss) {j : Nat} (hj : j < ss.length) : ∃ b bo, a = some ⟨b, bo, none⟩ ∧ ∀ W', Below W.heap.size W W' → ∀ r u, (Gg ss[j])[r]? = some u → W'.cell? ⟨b, bo + j * 5 + r, none⟩ = some u := by
 obtain ⟨b, bo, cap, hv, -, hbl, hc⟩ := stT.ow h hj;injection hv with hv1 hv2 hv3;refine ⟨b, bo, hv1, fun W' hb r u hu => ?_⟩;rw [qa];exact (hb.cell (p := ⟨b, bo + (j * 5 + r), none⟩) hbl).trans (hc r u hu)
set_option maxRecDepth 100000 in
set_option maxHeartbeats 8000000 in
theorem Uq {W : World} (C : List Value) (as_ : Option Addr) (cs : Nat) (ss : List St) (session : Nat) (hC : C[3]? = some (.slice as_ ss.length cs)) (hin : z_ W (.slice as_ ss.length cs) ss) (hl : ss.length ≤ 100000) :
  Calls prog 48 #[.agg C.toArray, .int .u64 (session : Int)] W fun e w' => e = .returned (.tuple #[.int .u64 ((((ss.find? (fun x => x.session == session)).map St.last).getD 0 : Nat) : Int), .bool (ss.find? (fun x => x.session == session)).isSome]) ∧ Hid (Below W.heap.size W w') := by
 have hz1 := ((ny W).dz C.toArray 27);generalize hMB : W.heap.size = MB at hz1;generalize hWa : (W.alloc (.cells C.toArray 27)) = Wa at hz1;have hin0 : Hid (∀ w', Below W.heap.size W w' → z_ w' (.slice as_ ss.length cs) ss) := hi_ (fun w' h => jf hin h);replace hz1 := hi_ hz1;replace hC := hi_ hC;clear hin;go_enter func48, ntmps48;go_upto_region 1 with fail;clear hWa;replace hMB := hi_ hMB;go_wp2_with fail;go_loopw [6] (fun v6 wr => ∃ j : Nat, v6 = .int .i64 j ∧ j ≤ ss.length ∧ Hid (∀ k (h : k < ss.length), k < j → (ss[k].session == session) = false) ∧ wr = Wa) (fun v6 _ => ss.length - (intOf v6).toNat);case atStart => exact ⟨0, rfl, dw _, hi_ (fun k h hk => by omega), rfl⟩
 case round =>
  obtain ⟨j, rfl, hj, hno, rfl⟩ := hrel;obtain ⟨hbM, -⟩ := hz1.out.box 0 rfl;have x3 : wr.cell? ⟨MB, 3, none⟩ = some (.slice as_ ss.length cs) := by rw [bc_ hbM 3, ai]; exact hC.out
  have hbel := hi_ hz1.out.bel;clear hbM;by_cases hlt : j < ss.length
  ·obtain ⟨b, bo, hab, hc⟩ := Hu (hin0.out wr hz1.out.bel) hlt;obtain ⟨z, hzz⟩ : ∃ z, ss[j] = z := ⟨_, rfl⟩;rw [hzz] at hc;have c0 : wr.cell? ⟨b, bo + j * 5, none⟩ = some (.int .u64 z.session) := hc wr (ae _ _) 0 _ rfl;have c1 : wr.cell? ⟨b, bo + j * 5 + 1, none⟩ = some (.int .u64 z.last) := hc wr (ae _ _) 1 _ rfl;rw [hab] at x3;have hj0 : (0 : Int) ≤ (j : Int) := (by omega);have hj1 : (j : Int) < (ss.length : Int) := (by omega);replace hzz := hi_ hzz;clear hc hab;cases hq : ((z.session : Int) == (session : Int)) with
   | true =>
    have hq2 : (z.session == session) = true := (by rw [← z8]; exact hq);have hf : Hid (ss.find? (fun x => x.session == session) = some z) := hi_ (by
     rw [ww];exact ⟨hq2, j, hlt, hzz.out, fun k hk => by rw [hno.out k (by omega) hk]; rfl⟩)
    clear hno hq2;go_wp2_with fail;go_ret2
    rw [hf.out];first | exact ⟨rfl, hbel⟩ | (rw [← hMB.out]; exact ⟨rfl, hbel⟩)
   | false =>
    have hq2 : (z.session == session) = false := (by rw [← z8]; exact hq);have hno2 : Hid (∀ k (h : k < ss.length), k < j + 1 → (ss[k].session == session) = false) := hi_ (fun k h hk => by
     by_cases e : k = j
     ·subst e; rw [hzz.out]; exact hq2
     exact hno.out k h (by omega))
    clear hno hq2;go_wp2_with fail;go_roundw;case rel => exact ⟨j + 1, by go_num, by omega, hno2, trivial⟩
    case measure => simp [intOf] <;> omega
  have hj2 : ¬ ((j : Int) < (ss.length : Int)) := by omega
  have hf : Hid (ss.find? (fun x => x.session == session) = none) := hi_ (by
   rw [uk];intro x hx;obtain ⟨k, hk, rfl⟩ := gu.1 hx;rw [hno.out k hk (by omega)]; simp)
  clear hno;go_wp2_with fail;go_ret2
  rw [hf.out];first | exact ⟨rfl, hbel⟩ | (rw [← hMB.out]; exact ⟨rfl, hbel⟩)
end
section
open Go.RowKit
attribute [local go_sem ↓] Go.wp_at_zero Go.wp_at_succ
theorem Bp {fn : Func} {p : Tmp} {ty t : TypeId} (h : fn.results = #[.cell p ty]) (tmps : Array Value) (w : World) (B : Nat) (C : List Value) (hp : tmps.getD p undef = .pointer (some ⟨B, 0, none⟩)) (hb : w.heap[B]? = some (.cells C.toArray t (0, 0))) (hagg : ∀ w, (isAgg ty).run prog w = .ok true w) (hsz : ∀ w, (Go.sizeOf ty).run prog w = .ok C.length w) : (results fn tmps).run prog w = .ok (.agg C.toArray) w := by
 have h1 := run_loadCells_list (P := prog) w ⟨B, 0, none⟩ C (fun j v hj => by rw [zx, di, bc_ hb j]; simpa using hj);rw [Array.getD_eq_getD_getElem?] at hp;simp only [results, h];simp [Sem.run_bind, Result.andThen, hp, asAddr, loadVar, hagg, hsz, h1]
def yj (session last : Nat) (gone : Bool) (x : St) : List St := if x.session = session then (if gone then [] else [{ x with last := last }]) else [x]
def qo (session last : Nat) (gone : Bool) (ss : List St) : List St := ss.flatMap (yj session last gone)
theorem Uh (session last : Nat) (gone : Bool) {ss : List St} {j : Nat} (hj : j < ss.length) : qo session last gone (ss.take (j + 1)) = qo session last gone (ss.take j) ++ yj session last gone ss[j] := by
 unfold qo;rw [ak hj, List.flatMap_append];simp
theorem Ui (session last : Nat) (gone : Bool) (x : St) : (yj session last gone x).length ≤ 1 := by
 unfold yj;split
 ·split <;> simp
 simp
theorem Oj (session last : Nat) (gone : Bool) : ∀ ss : List St, (qo session last gone ss).length ≤ ss.length
 | [] => ax 0
 | x :: r => by
  have h1 := Oj session last gone r;have h2 := Ui session last gone x;have h3 : qo session last gone (x :: r) = yj session last gone x ++ qo session last gone r := ql;rw [h3, bz, qc];omega
def ep_ (W : World) (session last : Nat) (gone : Bool) (ss : List St) (ab ah : Option Addr) (nb cb nv nh ch nse sw : Nat) (e : Ending) (w' : World) : Prop := ∃ aL cL, e = .returned (.agg ([.slice ab nb cb, .int .u64 nv, .slice ah nh ch, .slice aL (qo session last gone ss).length cL, .int .u64 nse, .int .u64 sw] : List Value).toArray) ∧ Hid (jw (fun k => W.heap.size ≤ k) w' (fun x => z_ x (.slice aL (qo session last gone ss).length cL) (qo session last gone ss))) ∧ Hid (Below W.heap.size W w')
set_option maxRecDepth 100000 in
set_option maxHeartbeats 8000000 in
theorem Sz {W : World} (ab ah as_ : Option Addr) (nb cb nv nh ch cs nse sw : Nat) (ss : List St) (session last : Nat) (gone : Bool) (hin : z_ W (.slice as_ ss.length cs) ss) (hl : ss.length ≤ 1000) :
  Calls prog 49 #[.agg ([.slice ab nb cb, .int .u64 nv, .slice ah nh ch, .slice as_ ss.length cs, .int .u64 nse, .int .u64 sw] : List Value).toArray, .int .u64 (session : Int), .int .u64 (last : Int), .bool gone] W (ep_ W session last gone ss ab ah nb cb nv nh ch nse sw) := by
 have hz1 := ((ny W).dz ([.slice ab nb cb, .int .u64 nv, .slice ah nh ch, .slice as_ ss.length cs, .int .u64 nse, .int .u64 sw] : List Value).toArray 27);generalize hMB : W.heap.size = MB at hz1;generalize hWa : (W.alloc (.cells ([.slice ab nb cb, .int .u64 nv, .slice ah nh ch, .slice as_ ss.length cs, .int .u64 nse, .int .u64 sw] : List Value).toArray 27)) = Wa at hz1;have hz2 := hz1.dz mlZ.toArray 27;unfold mlZ at hz2;generalize hRB : Wa.heap.size = RB at hz2;generalize hWb : (Wa.alloc (.cells ([.slice none 0 0, .int .u64 0, .slice none 0 0, .slice none 0 0, .int .u64 0, .int .u64 0] : List Value).toArray 27)) = Wb at hz2;have hin0 : Hid (∀ w', Below W.heap.size W w' → z_ w' (.slice as_ ss.length cs) ss) := hi_ (fun w' h => jf hin h);have hz3 : Hid (Zoo W Wb [stT.row (.slice none 0 0) [], df RB ([.slice none 0 0, .int .u64 0, .slice none 0 0, .slice none 0 0, .int .u64 0, .int .u64 0] : List Value).toArray 27, df MB ([.slice ab nb cb, .int .u64 nv, .slice ah nh ch, .slice as_ ss.length cs, .int .u64 nse, .int .u64 sw] : List Value).toArray 27]) := hi_ (hz2.newRow (ae _ _) (RT.Own.nil stT Wb) (fun g hg => by simp [Value.ownBlock] at hg));clear hin hz1 hz2;go_enter func49, ntmps49;go_upto_region 1 with fail;clear hWa hRB hWb;replace hMB := hi_ hMB;go_wp2_with fail;go_loopw [9, 10] (fun v9 v10 wr => ∃ (j : Nat) (a : Option Addr) (cc : Nat) (out : List St), v9 = .slice a out.length cc ∧ v10 = .int .i64 j ∧ j ≤ ss.length ∧ Hid (out = qo session last gone (ss.take j)) ∧ Hid (Zoo W wr [stT.row (.slice a out.length cc) out, df RB ([.slice none 0 0, .int .u64 0, .slice none 0 0, .slice none 0 0, .int .u64 0, .int .u64 0] : List Value).toArray 27, df MB ([.slice ab nb cb, .int .u64 nv, .slice ah nh ch, .slice as_ ss.length cs, .int .u64 nse, .int .u64 sw] : List Value).toArray 27])) (fun _ v10 _ => ss.length - (intOf v10).toNat);case atStart => exact ⟨0, none, 0, [], rfl, rfl, dw _, hi_ rfl, hz3⟩
 case round =>
  clear hz3;obtain ⟨j, a, cc, out, rfl, rfl, hj, hout, hz⟩ := hrel;have hol : Hid (out.length ≤ 1000) := hi_ (by
   have h1 := Oj session last gone (ss.take j);rw [← hout.out, bf] at h1;omega)
  obtain ⟨hbM, -⟩ := hz.out.box 2 rfl;have x3 : wr.cell? ⟨MB, 3, none⟩ = some (.slice as_ ss.length cs) := bc_ hbM 3;by_cases hlt : j < ss.length
  ·obtain ⟨b, bo, hab, hc⟩ := Hu (hin0.out wr hz.out.bel) hlt;obtain ⟨z, hzz⟩ : ∃ z, ss[j] = z := ⟨_, rfl⟩;rw [hzz] at hc;have r0 : wr.cell? ⟨b, bo + j * 5, none⟩ = some (.int .u64 z.session) := hc wr (ae _ _) 0 _ rfl;have r1 : wr.cell? ⟨b, bo + j * 5 + 1, none⟩ = some (.int .u64 z.last) := hc wr (ae _ _) 1 _ rfl;have r2 : wr.cell? ⟨b, bo + j * 5 + 2, none⟩ = some (.int .i64 z.node) := hc wr (ae _ _) 2 _ rfl;have r3 : wr.cell? ⟨b, bo + j * 5 + 3, none⟩ = some (.int .u64 z.life) := hc wr (ae _ _) 3 _ rfl;have r4 : wr.cell? ⟨b, bo + j * 5 + 4, none⟩ = some (.int .u64 z.ek) := hc wr (ae _ _) 4 _ rfl;rw [hab] at x3;have hj0 : (0 : Int) ≤ (j : Int) := (by omega);have hj1 : (j : Int) < (ss.length : Int) := (by omega);have hstep := Uh session last gone hlt;rw [hzz, ← hout.out] at hstep;replace hstep := hi_ hstep;clear hc hab hzz hbM hout;go_upto_region 6 with fail;have hzb := hz.out.dz ([.int .u64 z.session, .int .u64 z.last, .int .i64 z.node, .int .u64 z.life, .int .u64 z.ek] : List Value).toArray 69;change Code.wp _ _ _ _ (wr.alloc (.cells ([.int .u64 z.session, .int .u64 z.last, .int .i64 z.node, .int .u64 z.life, .int .u64 z.ek] : List Value).toArray 69));clear hz x3 r0 r1 r2 r3 r4;generalize (wr.alloc (.cells ([.int .u64 z.session, .int .u64 z.last, .int .i64 z.node, .int .u64 z.life, .int .u64 z.ek] : List Value).toArray 69)) = w1 at hzb ⊢;generalize wr.heap.size = Lb at hzb ⊢;obtain ⟨hbL, -⟩ := hzb.box 0 rfl;obtain ⟨l0, l1, l2, l3, l4⟩ := bx5 hbL;have fl1 : w1.frozen? ⟨Lb, 1, none⟩ = false := bf_ hbL 1;cases hq : ((z.session : Int) == (session : Int)) with
   | true =>
    have hq2 : z.session = session := eq_of_beq ((z8 _ _).symm.trans hq);cases gone with
    | true =>
     have e : Hid (out = qo session last true (ss.take (j + 1))) := hi_ (by rw [hstep.out]; unfold yj; rw [dh hq2, dh rfl, jy]);have hz3 := hi_ hzb.tail;clear hzb hq2 hstep hbL;go_wp2_with fail;go_roundw;case rel => exact ⟨j + 1, a, cc, out, rfl, by go_num, by omega, e, hz3⟩
     case measure => simp [intOf] <;> omega
    | false =>
     have e : Hid (out ++ [{ z with last := last }] = qo session last false (ss.take (j + 1))) := hi_ (by rw [hstep.out]; unfold yj; rw [dh hq2, bq (by decide)]);have hzs := hzb.il 0 rfl 1 (.int .u64 last);clear hq2 hstep hbL;go_upto_region 9 with fail;clear l0 l1 l2 l3 l4 fl1 hzb;generalize (w1.setCell ⟨Lb, 1, none⟩ (.int .u64 last)) = w2 at hzs ⊢;obtain ⟨z2, hz2⟩ : ∃ z2 : St, z2 = { z with last := last } := ⟨_, rfl⟩;obtain ⟨hbL, -⟩ := hzs.box 0 rfl;obtain ⟨l0, l1, l2, l3, l4⟩ := bx5 hbL;rw [← hz2] at e;have hx2 : ([.int .u64 z.session, .int .u64 last, .int .i64 z.node, .int .u64 z.life, .int .u64 z.ek] : List Value) = stT.enc z2 := (by rw [hz2]; rfl);have m0 : (z.session : Int) = (z2.session : Int) := (by rw [hz2]);have m1 : (last : Int) = (z2.last : Int) := (by rw [hz2]);have m2 : (z.node : Int) = (z2.node : Int) := (by rw [hz2]);have m3 : (z.life : Int) = (z2.life : Int) := (by rw [hz2]);have m4 : (z.ek : Int) = (z2.ek : Int) := (by rw [hz2]);rw [m0] at l0;rw [m1] at l1;rw [m2] at l2;rw [m3] at l3;rw [m4] at l4;have hzt := hzs.tail;clear m0 m1 m2 m3 m4 hx2 hz2 hbL hzs hq;have hzA := tu (hzt) (.cells (stT.enc z2).toArray 69);have hown1 := hi_ (RT.Own.one stT w2 z2 w2.heap.size rfl).rd;obtain ⟨F, ⟨ho1, hF⟩, -, hact⟩ := hzA.act 0 (stT.row (.slice a out.length cc) out) rfl;replace ho1 := hi_ ho1;replace hF := hi_ hF;replace hact := hi_ hact;clear hzA;go_wp2_with (at_builtin; refine stT.ja rfl (.tmp 31) (.tmp 33) rfl _ _ out [z2] rfl rfl ho1.out hown1.out (by rw [bi]; have := hol.out; omega) ?_);intro v8 w8 ho8 hg8 hat8;have hz8 := hact.out (stT.row v8 (out ++ [z2])) (fun k => v8.ownBlock = some k) w8 ⟨ho8, fun _ => j6⟩ (iy hF.out hg8 (fun g hg => (hat8 g hg).imp_right (fun h => by simpa using h)));obtain ⟨a8, c8, hv8⟩ := ho8.len;subst hv8;replace hz8 := hi_ hz8;clear hact ho8 hg8 hat8 ho1 hF hown1 l0 l1 l2 l3 l4;go_wp2_with fail;go_roundw;case rel => exact ⟨j + 1, a8, c8, out ++ [z2], rfl, by go_num, by omega, e, hz8⟩
     case measure => simp [intOf] <;> omega
   | false =>
    have hq2 : ¬ z.session = session := (by have h := (z8 _ _).symm.trans hq; exact ne_of_beq_false h);have e : Hid (out ++ [z] = qo session last gone (ss.take (j + 1))) := hi_ (by rw [hstep.out]; unfold yj; rw [bq hq2]);have hzt := hzb.tail;clear hq2 hstep hbL fl1 hzb;have hzA := tu (hzt) (.cells (stT.enc z).toArray 69);have hown1 := hi_ (RT.Own.one stT w1 z w1.heap.size rfl).rd;obtain ⟨F, ⟨ho1, hF⟩, -, hact⟩ := hzA.act 0 (stT.row (.slice a out.length cc) out) rfl;replace ho1 := hi_ ho1;replace hF := hi_ hF;replace hact := hi_ hact;clear hzA;go_wp2_with (at_builtin; refine stT.ja rfl (.tmp 31) (.tmp 33) rfl _ _ out [z] rfl rfl ho1.out hown1.out (by rw [bi]; have := hol.out; omega) ?_);intro v8 w8 ho8 hg8 hat8;have hz8 := hact.out (stT.row v8 (out ++ [z])) (fun k => v8.ownBlock = some k) w8 ⟨ho8, fun _ => j6⟩ (iy hF.out hg8 (fun g hg => (hat8 g hg).imp_right (fun h => by simpa using h)));obtain ⟨a8, c8, hv8⟩ := ho8.len;subst hv8;replace hz8 := hi_ hz8;clear hact ho8 hg8 hat8 ho1 hF hown1 l0 l1 l2 l3 l4;go_wp2_with fail;go_roundw;case rel => exact ⟨j + 1, a8, c8, out ++ [z], rfl, by go_num, by omega, e, hz8⟩
    case measure => simp [intOf] <;> omega
  obtain rfl : j = ss.length := by omega
  rw [gp] at hout;have hj2 : ¬ ((ss.length : Int) < (ss.length : Int)) := by omega
  have f3 : wr.frozen? ⟨MB, 3, none⟩ = false := bf_ hbM 3;have hzS0 := hz.out.il 2 rfl 3 (.slice a out.length cc);clear hbM hz hol;go_upto_region 11 with fail;clear x3 f3;generalize (wr.setCell ⟨MB, 3, none⟩ (.slice a out.length cc)) = w2 at hzS0 ⊢;obtain ⟨D, hD⟩ : ∃ D : List Value, D = [.slice ab nb cb, .int .u64 nv, .slice ah nh ch, .slice a out.length cc, .int .u64 nse, .int .u64 sw] := ⟨_, rfl⟩;have hzS : Zoo W w2 [stT.row (.slice a out.length cc) out, df RB ([.slice none 0 0, .int .u64 0, .slice none 0 0, .slice none 0 0, .int .u64 0, .int .u64 0] : List Value).toArray 27, df MB D.toArray 27] := by rw [hD]; exact hzS0
  have hlD : D.length = 6 := by rw [hD]; rfl
  have h1D : ∀ v ∈ D, v.oneCell' = true := by rw [hD]; exact xy _ _ _ _ _ _ _ _ _ _ _ _
  have hsz : ∀ w, (Go.sizeOf 27).run prog w = .ok D.length w := fun w => by rw [hlD]; exact sizeOf27 w
  obtain ⟨hbM, -⟩ := hzS.box 2 rfl;have hld := hi_ (fun j v (hj : D[j]? = some v) => (show w2.cell? ⟨MB, 0 + j, none⟩ = some v by rw [di, bc_ hbM j, ai]; exact hj));have hs1 := (hzS.m_ 1 rfl);have hs1' := hi_ (bu (fun j (hj : j < D.length) => hs1.1 j (by rw [hlD] at hj; exact hj)) hs1.2);have hzF := hi_ (hzS.mq 1 rfl D hlD);replace hsz := hi_ hsz;replace h1D := hi_ h1D;replace hD := hi_ hD;clear hbM hs1 hzS hzS0 hlD hj2;go_wp2_with (first
   | refine Dk rfl 27 (.tmp 4) rfl MB 0 D (by rfl) isAgg27 hsz.out hld.out ?_
   | (refine ru rfl 27 (.tmp 8) (.tmp 37) rfl RB 0 D (by rfl) (by rfl) hsz.out h1D.out hs1'.out.1 hs1'.out.2 ?_; refine Ae ?_))
  refine hi_ ?_;generalize (w2.setCells RB 0 D) = w3 at hzF ⊢;clear hs1' hld;go_wp2_with fail;refine bodyPost_ret (Bp rfl _ _ RB D rfl (hzF.out.box 1 rfl).1 isAgg27 hsz.out) rfl ?_;have hst : jw (fun k => W.heap.size ≤ k) w3 (fun x => z_ x (.slice a out.length cc) out) := Zoo.stay hzF.out (fun _ _ => rfl) (fun W0 w' hz => (hz.own 0 rfl).rd) (fun _ _ h hb => jf h hb);obtain rfl := hout.out;exact ⟨a, cc, by rw [hD.out], hi_ hst, hi_ hzF.out.bel⟩
end
section
open Go.RowKit
attribute [local go_sem ↓] Go.wp_at_zero Go.wp_at_succ
def gw_ (W : World) (bs : List BxV) (ah as_ : Option Addr) (nv nh ch ns cs nse sw : Nat) (e : Ending) (w' : World) : Prop := ∃ a cc, e = .returned (.agg ([.slice a bs.length cc, .int .u64 nv, .slice ah nh ch, .slice as_ ns cs, .int .u64 nse, .int .u64 sw] : List Value).toArray) ∧ Hid (jw (fun k => W.heap.size ≤ k) w' (fun x => Rd x (.slice a bs.length cc) bs.length (bxT.cells bs))) ∧ Hid (Below W.heap.size W w')
set_option maxRecDepth 100000 in
set_option maxHeartbeats 8000000 in
theorem Xn {W : World} (ab ah as_ : Option Addr) (cb nv nh ch ns cs nse sw : Nat) (bs : List BxV) (i : Nat) (z : BxV) (hi : i < bs.length) (hin : Rd W (.slice ab bs.length cb) bs.length (bxT.cells bs)) (hl : bs.length ≤ 1000) :
    Calls prog 103 #[.agg ([.slice ab bs.length cb, .int .u64 nv, .slice ah nh ch, .slice as_ ns cs, .int .u64 nse, .int .u64 sw] : List Value).toArray, .int .i64 (i : Int), .agg (rq z).toArray] W (gw_ W (bs.set i z) ah as_ nv nh ch ns cs nse sw) := by
  have hz1 := ((ny W).dz ([.slice ab bs.length cb, .int .u64 nv, .slice ah nh ch, .slice as_ ns cs, .int .u64 nse, .int .u64 sw] : List Value).toArray 27)
  generalize hMB : W.heap.size = MB at hz1
  generalize hWa : (W.alloc (.cells ([.slice ab bs.length cb, .int .u64 nv, .slice ah nh ch, .slice as_ ns cs, .int .u64 nse, .int .u64 sw] : List Value).toArray 27)) = Wa at hz1
  have hz2 := hz1.dz (rq z).toArray 48
  generalize hBB : Wa.heap.size = BB at hz2
  generalize hWb : (Wa.alloc (.cells (rq z).toArray 48)) = Wb at hz2
  have hz3 := hz2.dz mlZ.toArray 27
  unfold mlZ at hz3
  generalize hRB : Wb.heap.size = RB at hz3
  generalize hWc : (Wb.alloc (.cells ([.slice none 0 0, .int .u64 0, .slice none 0 0, .slice none 0 0, .int .u64 0, .int .u64 0] : List Value).toArray 27)) = Wc at hz3
  have hin1 := Lib.hid (hin.below hz3.bel)
  clear hin hz1 hz2
  go_enter func103, ntmps103
  go_upto_region 1 with fail
  clear hWa hBB hWb hRB hWc
  replace hMB := Lib.hid hMB
  obtain ⟨hbM, -⟩ := hz3.box (B := MB) (C := ([.slice ab bs.length cb, .int .u64 nv, .slice ah nh ch, .slice as_ ns cs, .int .u64 nse, .int .u64 sw] : List Value).toArray) (t := 27) 2 rfl
  have hlt : MB < Wc.heap.size := (bv.1 hbM).1
  have hne : MB ≠ Wc.heap.size := by omega
  have x0 : Wc.cell? ⟨MB, 0, none⟩ = some (.slice ab bs.length cb) := bc_ hbM 0
  replace hz3 := Lib.hid hz3
  clear hbM
  go_wp2_with (at_builtin; refine bxT.ja rfl (.tmp 7) (.tmp 9) rfl _ _ [] bs rfl rfl (RT.Own.empty bxT Wc Wc.heap.size rfl) (hin1.out.below ((ae _ _).alloc (ax _) (.cells #[] 48))) (by simp; omega) ?_)
  intro v3 w4 hown hgr hat
  have hb : Below Wc.heap.size Wc w4 := ((ae _ Wc).alloc (ax _) (.cells #[] 48)).grown hgr (by simp) (fun k hk => by simp [Value.ownBlock] at hk; omega)
  have hf : ∀ g, v3.ownBlock = some g → Wc.heap.size ≤ g := fun k hk => by
    rcases hat k hk with q | q
    · simp [Value.ownBlock] at q; omega
    · omega
  have hz4 := hz3.out.newRow hb hown hf
  obtain ⟨a, cc, rfl⟩ := hown.len
  clear hgr hat hf hin1 hown hb x0 hlt hne
  obtain ⟨hbM, -⟩ := hz4.box (B := MB) (C := ([.slice ab bs.length cb, .int .u64 nv, .slice ah nh ch, .slice as_ ns cs, .int .u64 nse, .int .u64 sw] : List Value).toArray) (t := 27) 3 rfl
  have x0 : w4.cell? ⟨MB, 0, none⟩ = some (.slice ab bs.length cb) := bc_ hbM 0
  have f0 : w4.frozen? ⟨MB, 0, none⟩ = false := bf_ hbM 0
  have hz5 := hz4.il (B := MB) (C := [.slice ab bs.length cb, .int .u64 nv, .slice ah nh ch, .slice as_ ns cs, .int .u64 nse, .int .u64 sw]) (t := 27) 3 rfl 0 (.slice a bs.length cc)
  clear hbM hz3 hz4
  go_upto_region 2 with fail
  clear x0 f0
  generalize (w4.setCell ⟨MB, 0, none⟩ (.slice a bs.length cc)) = w5 at hz5 ⊢
  obtain ⟨hbM, -⟩ := hz5.box (B := MB) (C := ([.slice a bs.length cc, .int .u64 nv, .slice ah nh ch, .slice as_ ns cs, .int .u64 nse, .int .u64 sw] : List Value).toArray) (t := 27) 3 rfl
  have x0 : w5.cell? ⟨MB, 0, none⟩ = some (.slice a bs.length cc) := bc_ hbM 0
  obtain ⟨hbB, -⟩ := hz5.box (B := BB) (C := (rq z).toArray) (t := 48) 2 rfl
  obtain ⟨g, cap, hv, -, -, hcl, hfr, hz6⟩ := hz5.Xp 0 rfl rfl i hi z (.string z.name) (.int .u64 z.ag) (.int .u64 z.next) (.int .u64 z.high) (.slice z.a z.rows.length z.c) rfl
  injection hv with e1 e2 e3
  subst e1 e3
  obtain ⟨z0, hz0⟩ : ∃ z0, bs[i] = z0 := ⟨_, rfl⟩
  rw [hz0] at hcl
  have b0 : w5.cell? ⟨BB, 0, none⟩ = some (.string z.name) := bc_ hbB 0
  have b1 : w5.cell? ⟨BB, 1, none⟩ = some (.int .u64 z.ag) := bc_ hbB 1
  have b2 : w5.cell? ⟨BB, 2, none⟩ = some (.int .u64 z.next) := bc_ hbB 2
  have b3 : w5.cell? ⟨BB, 3, none⟩ = some (.int .u64 z.high) := bc_ hbB 3
  have b4 : w5.cell? ⟨BB, 4, none⟩ = some (.slice z.a z.rows.length z.c) := bc_ hbB 4
  have r0 : w5.cell? ⟨g, i * 5, none⟩ = some (.string z0.name) := hcl 0 (by decide)
  have r1 : w5.cell? ⟨g, i * 5 + 1, none⟩ = some (.int .u64 z0.ag) := hcl 1 (by decide)
  have r2 : w5.cell? ⟨g, i * 5 + 2, none⟩ = some (.int .u64 z0.next) := hcl 2 (by decide)
  have r3 : w5.cell? ⟨g, i * 5 + 3, none⟩ = some (.int .u64 z0.high) := hcl 3 (by decide)
  have r4 : w5.cell? ⟨g, i * 5 + 4, none⟩ = some (.slice z0.a z0.rows.length z0.c) := hcl 4 (by decide)
  have f0 := hfr (i * 5)
  have f1 := hfr (i * 5 + 1)
  have f2 := hfr (i * 5 + 2)
  have f3 := hfr (i * 5 + 3)
  have f4 := hfr (i * 5 + 4)
  have hi0 : (0 : Int) ≤ (i : Int) := by omega
  have hi1 : (i : Int) < (bs.length : Int) := by omega
  replace hz6 := Lib.hid hz6
  clear hcl hfr hbM hbB hz5 hz0 e2
  go_upto_region 3 with fail
  clear b0 b1 b2 b3 b4 r0 r1 r2 r3 r4 f0 f1 f2 f3 f4 x0
  have hz6 := hz6.out
  generalize (((((w5.setCell ⟨g, i * 5, none⟩ (.string z.name)).setCell ⟨g, i * 5 + 1, none⟩ (.int .u64 z.ag)).setCell ⟨g, i * 5 + 2, none⟩ (.int .u64 z.next)).setCell ⟨g, i * 5 + 3, none⟩ (.int .u64 z.high)).setCell ⟨g, i * 5 + 4, none⟩ (.slice z.a z.rows.length z.c)) = w6 at hz6 ⊢
  obtain ⟨D, hD⟩ : ∃ D : List Value, D = [.slice (some ⟨g, 0, none⟩) bs.length cc, .int .u64 nv, .slice ah nh ch, .slice as_ ns cs, .int .u64 nse, .int .u64 sw] := ⟨_, rfl⟩
  have hzS : Zoo W w6 [bxT.row (.slice (some ⟨g, 0, none⟩) bs.length cc) (bs.set i z), df RB ([.slice none 0 0, .int .u64 0, .slice none 0 0, .slice none 0 0, .int .u64 0, .int .u64 0] : List Value).toArray 27, df BB (rq z).toArray 48, df MB D.toArray 27] := by rw [hD]; exact hz6
  have hlD : D.length = 6 := by rw [hD]; rfl
  have h1D : ∀ v ∈ D, v.oneCell' = true := by rw [hD]; exact xy _ _ _ _ _ _ _ _ _ _ _ _
  have hsz : ∀ w, (Go.sizeOf 27).run prog w = .ok D.length w := fun w => by rw [hlD]; exact sizeOf27 w
  obtain ⟨hbM, -⟩ := hzS.box (B := MB) (C := D.toArray) (t := 27) 3 rfl
  have hld := Lib.hid (fun j v (hj : D[j]? = some v) => (show w6.cell? ⟨MB, 0 + j, none⟩ = some v by rw [di, bc_ hbM j, ai]; exact hj))
  have hs1 := (hzS.m_ (B := RB) (C := [.slice none 0 0, .int .u64 0, .slice none 0 0, .slice none 0 0, .int .u64 0, .int .u64 0]) (t := 27) 1 rfl)
  have hs1' := Lib.hid (bu (fun j (hj : j < D.length) => hs1.1 j (by rw [hlD] at hj; exact hj)) hs1.2)
  have hzF := Lib.hid (hzS.mq (B := RB) (C := [.slice none 0 0, .int .u64 0, .slice none 0 0, .slice none 0 0, .int .u64 0, .int .u64 0]) (t := 27) 1 rfl D hlD)
  replace hsz := Lib.hid hsz
  replace h1D := Lib.hid h1D
  replace hD := Lib.hid hD
  clear hbM hs1 hzS hz6 hlD
  go_wp2_with (first
    | refine Dk rfl 27 (.tmp 3) rfl MB 0 D (by rfl) isAgg27 hsz.out hld.out ?_
    | (refine ru rfl 27 (.tmp 6) (.tmp 17) rfl RB 0 D (by rfl) (by rfl) hsz.out h1D.out hs1'.out.1 hs1'.out.2 ?_; refine Ae ?_))
  refine Lib.hid ?_
  generalize (w6.setCells RB 0 D) = w7 at hzF ⊢
  clear hs1' hld
  go_wp2_with fail
  refine bodyPost_ret (Bp rfl _ _ RB D rfl (hzF.out.box (B := RB) (C := D.toArray) (t := 27) 1 rfl).1 isAgg27 hsz.out) rfl ?_
  have hst : jw (fun k => W.heap.size ≤ k) w7 (fun x => Rd x (.slice (some ⟨g, 0, none⟩) bs.length cc) bs.length (bxT.cells (bs.set i z))) := Zoo.stay hzF.out (fun _ _ => rfl) (fun W0 w' hz => by have h := (hz.own 0 rfl).rd; rw [gq] at h; exact h) (fun _ _ h hb => jf h hb)
  have hls : (bs.set i z).length = bs.length := gq
  refine ⟨some ⟨g, 0, none⟩, cc, ?_, ?_, ?_⟩
  · rw [hD.out, hls]
  · rw [hls]; exact Lib.hid hst
  · first | exact Lib.hid hzF.out.bel | (rw [← hMB.out]; exact Lib.hid hzF.out.bel)
end
end Go.Proofs.YtdobbfjmlnlieaaGreat
