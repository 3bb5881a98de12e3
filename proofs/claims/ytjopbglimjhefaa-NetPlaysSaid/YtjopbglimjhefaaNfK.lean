/- act on both nets, sending, and sending twice: walked. -/
import Derived.Test.YtjopbglimjhefaaNfJ
namespace Go.Proofs.Ytjopbglimjhefaa
set_option linter.unusedSimpArgs false
open Go.RowKit Go.Maps Go.WideMaps

theorem PlayI.send {s : Ns} {r : Rs} {n : Nat} (h : PlayI s r n) (x y : Int) (t : ByteArray) (d : Int) : PlayI (sendS s x y t d).2.2 (sendR r x y t d).2.2 (n + 1) := ⟨(h.al.send x y t d).2.2, h.ok.send x y t d⟩
theorem PlayI.double {s : Ns} {r : Rs} {n : Nat} (h : PlayI s r n) {id d : Int} {x : Int × Int × Ns} {y : Int × Int × Rs} (h1 : DoubleS s id d x) (h2 : DoubleR r id d y) : y.1 = x.1 ∧ y.2.1 = x.2.1 ∧ PlayI x.2.2 y.2.2 (n + 1) := by
  obtain ⟨e1, e2, e3⟩ := h.al.double h1 h2
  refine ⟨e1, e2, e3, ?_⟩
  rcases h1 with ⟨_, rfl⟩ | ⟨p, _, _, rfl⟩
  · exact h.ok.more (Nat.le_succ n)
  · exact h.ok.send _ _ _ _
set_option maxRecDepth 100000 in
set_option maxHeartbeats 8000000 in
theorem act_send {W0 W : World} {L : List Th} (bn bx : Nat) (s : Ns) (r : Rs) (n : Nat) (hn : n ≤ 500000) (hI : PlayI s r n) (x y k : Int) (t : ByteArray) (hz : Zoo W0 W (netT bn s :: refT bx r :: L)) :
    Calls Try.prog 16 #[.pointer (some ⟨bn, 0, none⟩), .pointer (some ⟨bx, 0, none⟩), .agg #[.int .i64 1, .int .i64 x, .int .i64 y, .int .i64 k, .string t]] W (ActRet W0 L bn bx (n + 600)) := by
  have hz1 := hz.newBox #[.int .i64 1, .int .i64 x, .int .i64 y, .int .i64 k, .string t] 39
  have hnow := hI.ok.now
  have hlast := hI.ok.last
  have hc := send_zoo hz1 1 bn s rfl (by omega) (by omega) hI.ok.len x y t k
  obtain ⟨e1, e2, -⟩ := hI.al.send x y t k
  have hI2 := (hI.send x y t k).more (by omega : n + 1 ≤ n + 600)
  have hrf := fun (W1 : World) (s1 : Ns) (hz : Zoo W0 W1 (boxT W.heap.size #[.int .i64 1, .int .i64 x, .int .i64 y, .int .i64 k, .string t] 39 :: netT bn s1 :: refT bx r :: L)) => refSend_zoo hz 2 bx r rfl (by rw [hI.al.now]; omega) (by rw [hI.al.last]; omega) hI.len x y t k
  rw [e1, e2] at hrf
  generalize (sendR r x y t k).2.2 = r2 at hI2 hrf
  obtain ⟨⟨i1, k1, s1⟩, hr⟩ : ∃ q, sendS s x y t k = q := ⟨_, rfl⟩
  rw [hr] at hc hI2 hrf
  dsimp only at hc hI2 hrf
  replace hc := Lib.hid hc
  replace hrf := Lib.hid hrf
  replace hI2 := Lib.hid hI2
  clear hr hz1 e1 e2 hz hI
  go_enter Try.func16, Try.ntmps16
  go_wp2_with fail
  refine hc.out.mono ?_
  rintro e w2 ⟨rfl, hz2⟩
  obtain ⟨hbx, -⟩ := Zoo.box hz2 0 rfl
  have c1 : w2.cell? ⟨W.heap.size, 1, none⟩ = some (.int .i64 x) := box_cell hbx 1
  have c2 : w2.cell? ⟨W.heap.size, 2, none⟩ = some (.int .i64 y) := box_cell hbx 2
  have c3 : w2.cell? ⟨W.heap.size, 3, none⟩ = some (.int .i64 k) := box_cell hbx 3
  have c4 : w2.cell? ⟨W.heap.size, 4, none⟩ = some (.string t) := box_cell hbx 4
  have hc2 := Lib.hid (hrf.out w2 s1 hz2)
  clear hc hz2 hbx hrf
  go_wp2_with fail
  refine hc2.out.mono ?_
  rintro e w3 ⟨rfl, hz3⟩
  have hz4 : Hid (Zoo W0 w3 (netT bn s1 :: refT bx r2 :: L)) := Lib.hid (Zoo.tail hz3)
  clear hc2 hz3
  have q1 : (i1 == i1) = true := by simp
  have q2 : (k1 == k1) = true := by simp
  go_wp2_with fail
  go_ret
  exact ⟨rfl, _, _, hz4, hI2⟩
set_option maxRecDepth 100000 in
set_option maxHeartbeats 8000000 in
theorem act_double {W0 W : World} {L : List Th} (bn bx : Nat) (s : Ns) (r : Rs) (n : Nat) (hn : n ≤ 500000) (hI : PlayI s r n) (x y k : Int) (t : ByteArray) (hz : Zoo W0 W (netT bn s :: refT bx r :: L)) :
    Calls Try.prog 16 #[.pointer (some ⟨bn, 0, none⟩), .pointer (some ⟨bx, 0, none⟩), .agg #[.int .i64 4, .int .i64 x, .int .i64 y, .int .i64 k, .string t]] W (ActRet W0 L bn bx (n + 600)) := by
  have hz1 := hz.newBox #[.int .i64 4, .int .i64 x, .int .i64 y, .int .i64 k, .string t] 39
  have hnow := hI.ok.now
  have hlast := hI.ok.last
  have hc := Lib.hid (double_zoo hz1 1 bn s rfl (by omega) (by omega) hI.ok.len x k)
  have hrf := Lib.hid (fun (W1 : World) (s1 : Ns) (hz : Zoo W0 W1 (boxT W.heap.size #[.int .i64 4, .int .i64 x, .int .i64 y, .int .i64 k, .string t] 39 :: netT bn s1 :: refT bx r :: L)) => refDouble_zoo hz 2 bx r rfl (by rw [hI.al.now]; omega) (by rw [hI.al.last]; omega) hI.len x k)
  replace hI := Lib.hid hI
  clear hz1 hz
  go_enter Try.func16, Try.ntmps16
  go_wp2_with fail
  refine hc.out.mono ?_
  rintro e w2 ⟨⟨i1, k1, s1⟩, rfl, hd1, hz2⟩
  obtain ⟨hbx, -⟩ := Zoo.box hz2 0 rfl
  have c1 : w2.cell? ⟨W.heap.size, 1, none⟩ = some (.int .i64 x) := box_cell hbx 1
  have c2 : w2.cell? ⟨W.heap.size, 2, none⟩ = some (.int .i64 y) := box_cell hbx 2
  have c3 : w2.cell? ⟨W.heap.size, 3, none⟩ = some (.int .i64 k) := box_cell hbx 3
  have c4 : w2.cell? ⟨W.heap.size, 4, none⟩ = some (.string t) := box_cell hbx 4
  have hc2 := Lib.hid (hrf.out w2 s1 hz2)
  clear hc hz2 hbx hrf
  go_wp2_with fail
  refine hc2.out.mono ?_
  rintro e w3 ⟨⟨i2, k2, r2⟩, rfl, hd2, hz3⟩
  obtain ⟨e1, e2, hI3⟩ := hI.out.double hd1.out hd2.out
  dsimp only at e1 e2 hI3
  subst e1 e2
  have hI2 := Lib.hid (hI3.more (by omega : n + 1 ≤ n + 600))
  have hz4 : Hid (Zoo W0 w3 (netT bn s1 :: refT bx r2 :: L)) := Lib.hid (Zoo.tail hz3)
  clear hc2 hz3 hd1 hd2 hI3
  have q1 : (i2 == i2) = true := by simp
  have q2 : (k2 == k2) = true := by simp
  go_wp2_with fail
  go_ret
  exact ⟨rfl, _, _, hz4, hI2⟩
theorem PlayI.next {s : Ns} {r : Rs} {n : Nat} (h : PlayI s r n) {p p' : Option Pk} {l2 : List Pk} {r' : Rs} (h1 : NextR s.now s.C s.l p l2) (h2 : NextD r s.C p' r') : p = p' ∧ PlayI (withL s l2) r' n := by
  obtain ⟨e, h3⟩ := h.al.next (fun _ _ => rfl) h1 h2
  exact ⟨e, h3, h.ok.next h1⟩
theorem PlayI.links {s : Ns} {r : Rs} {n : Nat} (h : PlayI s r n) : (∀ q ∈ r.l, linkB q.src q.dst = true) ∧ ∀ q ∈ r.l, cutAt r.cs q.src q.dst = s.C (lo q.src q.dst) (hi q.src q.dst) := by
  have h1 : ∀ q ∈ r.l, linkB q.src q.dst = true := fun q hq => (linkB_iff _ _).1 (h.ok.good q (h.al.perm.mem_iff.1 hq))
  exact ⟨h1, fun q hq => h.al.cut _ _ (h1 q hq)⟩
set_option maxRecDepth 100000 in
set_option maxHeartbeats 8000000 in
theorem act_next {W0 W : World} {L : List Th} (bn bx : Nat) (s : Ns) (r : Rs) (n : Nat) (hI : PlayI s r n) (x y k : Int) (t : ByteArray) (hz : Zoo W0 W (netT bn s :: refT bx r :: L)) :
    Calls Try.prog 16 #[.pointer (some ⟨bn, 0, none⟩), .pointer (some ⟨bx, 0, none⟩), .agg #[.int .i64 2, .int .i64 x, .int .i64 y, .int .i64 k, .string t]] W (ActRet W0 L bn bx (n + 600)) := by
  have hz1 := hz.alloc (.cells #[.int .i64 2, .int .i64 x, .int .i64 y, .int .i64 k, .string t] 39)
  have hc := Lib.hid (next_zoo3 hz1 0 bn s rfl hI.ok.len hI.ok.good)
  have hrf := Lib.hid (fun (W1 : World) (B : Nat) (q : Pk) (s1 : Ns) (hz : Zoo W0 W1 (boxT B (pkArr q) 30 :: netT bn s1 :: refT bx r :: L)) => refNext_zoo hz 2 bx r rfl s.C hI.len hI.al.rise hI.links.1 hI.links.2)
  replace hI := Lib.hid hI
  clear hz1 hz
  go_enter Try.func16, Try.ntmps16
  go_wp2_with fail
  refine hc.out.mono ?_
  rintro e w2 ⟨ok, q, l2, rfl, hd1, hz2⟩
  have hz3 := Zoo.newBox hz2 (pkArr q) 30
  have hc2 := Lib.hid (hrf.out _ _ q _ hz3)
  unfold pkArr at hc2
  clear hc hz2 hrf hz3
  go_wp2_with fail
  refine hc2.out.mono ?_
  rintro e w3 ⟨ok2, q2, r2, rfl, hd2, hz4⟩
  obtain ⟨e1, hI3⟩ := hI.out.next hd1.out.1 hd2.out.1
  have hqq : ok = ok2 ∧ q = q2 := by
    cases ok <;> cases ok2
    · exact ⟨rfl, (hd1.out.2 rfl).trans (hd2.out.2 rfl).symm⟩
    · simp at e1
    · simp at e1
    · exact ⟨rfl, by simpa using e1⟩
  obtain ⟨rfl, rfl⟩ := hqq
  have hI2 := Lib.hid (hI3.more (by omega : n ≤ n + 600))
  obtain ⟨hbx, -⟩ := Zoo.box hz4 0 rfl
  have a0 : w3.cell? ⟨w2.heap.size, 0, none⟩ = some (.int .i64 q.id) := box_cell hbx 0
  have a1 : w3.cell? ⟨w2.heap.size, 1, none⟩ = some (.int .i64 q.src) := box_cell hbx 1
  have a2 : w3.cell? ⟨w2.heap.size, 2, none⟩ = some (.int .i64 q.dst) := box_cell hbx 2
  have a3 : w3.cell? ⟨w2.heap.size, 3, none⟩ = some (.string q.data) := box_cell hbx 3
  have a4 : w3.cell? ⟨w2.heap.size, 4, none⟩ = some (.int .i64 q.due) := box_cell hbx 4
  have hlt := (Array.getElem?_eq_some_iff.1 hbx).1
  have hz5 : Hid (Zoo W0 (w3.alloc (.cells (pkArr q) 30)) (netT bn (withL s l2) :: refT bx r2 :: L)) := Lib.hid ((Zoo.tail hz4).alloc _)
  unfold pkArr at hz5
  generalize w2.heap.size = B at a0 a1 a2 a3 a4 hlt ⊢
  have hne : B ≠ w3.heap.size := by omega
  clear hc2 hz4 hd1 hd2 hI3 e1 hbx
  have q1 : (ok == ok) = true := by simp
  go_wp2_with fail
  go_ret
  exact ⟨rfl, _, _, hz5, hI2⟩
end Go.Proofs.Ytjopbglimjhefaa
