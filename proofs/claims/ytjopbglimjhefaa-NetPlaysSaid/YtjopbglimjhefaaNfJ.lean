/- act on both nets: walked. -/
import Derived.Test.YtjopbglimjhefaaNfI
namespace Go.Proofs.Ytjopbglimjhefaa
set_option linter.unusedSimpArgs false
open Go.RowKit Go.Maps Go.WideMaps

/-- the two nets stand alike, and are small -/
structure PlayI (s : Ns) (r : Rs) (n : Nat) : Prop where
  al : Alike s r
  ok : NOk s n
theorem PlayI.len {s : Ns} {r : Rs} {n : Nat} (h : PlayI s r n) : r.l.length ≤ 600 := by have := h.al.perm.length_eq; have := h.ok.len; omega
theorem PlayI.more {s : Ns} {r : Rs} {n m : Nat} (h : PlayI s r n) (hm : n ≤ m) : PlayI s r m := ⟨h.al, h.ok.more hm⟩
theorem PlayI.tick {s : Ns} {r : Rs} {n : Nat} (h : PlayI s r n) : PlayI (tickS s) ⟨r.l, r.now + 1, r.last, r.cs⟩ (n + 1) :=
  ⟨h.al.tick, h.ok.len, h.ok.good, by show s.now + 1 ≤ n + 1; have := h.ok.now; omega, Nat.le_trans h.ok.last (by omega), Nat.le_trans h.ok.N (by omega)⟩
def ActRet (W0 : World) (L : List Th) (bn bx : Nat) (n : Nat) (e : Ending) (w' : World) : Prop := e = .returned (.bool true) ∧ ∃ (s' : Ns) (r' : Rs), Hid (Zoo W0 w' (netT bn s' :: refT bx r' :: L)) ∧ Hid (PlayI s' r' n)
set_option maxRecDepth 100000 in
set_option maxHeartbeats 8000000 in
theorem act_tick {W0 W : World} {L : List Th} (bn bx : Nat) (s : Ns) (r : Rs) (n : Nat) (hn : n ≤ 500000) (hI : PlayI s r n) (x y k : Int) (t : ByteArray) (hz : Zoo W0 W (netT bn s :: refT bx r :: L)) :
    Calls Try.prog 16 #[.pointer (some ⟨bn, 0, none⟩), .pointer (some ⟨bx, 0, none⟩), .agg #[.int .i64 0, .int .i64 x, .int .i64 y, .int .i64 k, .string t]] W (ActRet W0 L bn bx (n + 600)) := by
  have hz1 := hz.alloc (.cells #[.int .i64 0, .int .i64 x, .int .i64 y, .int .i64 k, .string t] 39)
  have hnow := hI.ok.now
  have hc := Lib.hid (tick_zoo hz1 0 bn s rfl (by omega))
  go_enter Try.func16, Try.ntmps16
  go_wp2_with fail
  refine hc.out.mono ?_
  rintro e w2 ⟨rfl, hz2⟩
  obtain ⟨c1, f1, hb, hz3⟩ := ref_tick hz2 1 bx r rfl
  have e1 : ((r.now + 1 : Nat) : Int) = (r.now : Int) + 1 := by omega
  rw [e1] at hz3
  have hrn : r.now ≤ 500000 := by rw [hI.al.now]; omega
  replace hz3 := Lib.hid hz3
  have hI2 := Lib.hid (hI.tick.more (by omega : n + 1 ≤ n + 600))
  clear hc hz hz1 hz2 e1 hI
  go_wp2_with fail
  go_ret
  exact ⟨rfl, _, _, hz3, hI2⟩
end Go.Proofs.Ytjopbglimjhefaa
