/- alive; NetNil: walked. -/
import Derived.Test.YtjopbglimjhefaaNeP
import Derived.Laws.StructEq
namespace Go.Proofs.Ytjopbglimjhefaa
open Go.RowKit Go.Maps Go.WideMaps

def apk1 : Pk := ⟨1, 1, 2, ByteArray.mk #[97], 2⟩
def apk2 : Pk := ⟨2, 2, 1, ByteArray.mk #[98], 0⟩
theorem NextR.one {now : Nat} {C : Int → Int → Bool} {p : Pk} {l : List Pk} {r : Option Pk} {l2 : List Pk} (h : NextR now C (p :: l) r l2) (hl : ∀ q ∈ l, ltP p q) (hd : p.due ≤ now) (hC : C (lo p.src p.dst) (hi p.src p.dst) = false) : r = some p ∧ l2.Perm l := by
  have hmin : ∀ q l', (q :: l').Perm (p :: l) → (∀ x ∈ p :: l, leP q x) → q = p := fun q l' h1 h2 => by
    have hq : q ∈ p :: l := h1.mem_iff.1 (by simp)
    rcases List.mem_cons.1 hq with e | e
    · exact e
    · exact absurd (hl q e) (h2 p (by simp))
  cases h with
  | none _ h => have := h p (by simp); omega
  | take q _ l' h1 h2 h3 h4 =>
    obtain rfl := hmin q _ h1 h2
    exact ⟨rfl, (List.perm_cons q).1 h1⟩
  | drop q _ l1 r l' h1 h2 h3 h4 _ =>
    obtain rfl := hmin q _ h1 h2
    rw [hC] at h4; cases h4
theorem NextR.later {now : Nat} {C : Int → Int → Bool} {l : List Pk} {r : Option Pk} {l2 : List Pk} (h : NextR now C l r l2) (hl : ∀ q ∈ l, (now : Int) < q.due) : r = Option.none ∧ l2 = l := by
  cases h with
  | none _ h => exact ⟨rfl, rfl⟩
  | take q _ l' h1 h2 h3 h4 => have := hl q (h1.mem_iff.1 (by simp)); omega
  | drop q _ l1 r l' h1 h2 h3 h4 _ => have := hl q (h1.mem_iff.1 (by simp)); omega
def als1 : Ns := ⟨[apk1], 0, 1, 0, fun _ _ => false⟩
def als2 : Ns := ⟨[apk2, apk1], 0, 2, 0, fun _ _ => false⟩
def als3 : Ns := ⟨[apk1], 0, 2, 0, fun _ _ => false⟩
def als4 : Ns := ⟨[apk1], 1, 2, 0, fun _ _ => false⟩
def als5 : Ns := ⟨[apk1], 2, 2, 0, fun _ _ => false⟩
theorem al_send1 : sendS Ns.new 1 2 (ByteArray.mk #[97]) 2 = (1, 0, als1) := by
  unfold sendS
  rw [if_pos (by decide), if_pos (by decide)]; rfl
theorem al_send2 : sendS als1 2 1 (ByteArray.mk #[98]) 0 = (2, 0, als2) := by
  unfold sendS
  rw [if_pos (by decide), if_pos (by decide)]; rfl
instance (a c : Int) : Decidable (Lk a c) := by unfold Lk; infer_instance
theorem good_al {l : List Pk} (h : ∀ q ∈ l, q = apk1 ∨ q = apk2) : Good l := fun q hq => by
  rcases h q hq with rfl | rfl <;> decide
theorem pkAt_alloc (W : World) (p : Pk) : (W.alloc (.cells #[.int .i64 p.id, .int .i64 p.src, .int .i64 p.dst, .string p.data, .int .i64 p.due] 30)).heap[W.heap.size]? = some (.cells (pkArr p) 30 (0, 0)) := heap_alloc_new W _
theorem eq_pk (t : World) (a b c e a' b' c' e' : Int) (d d' : ByteArray) : (Op.equalIn 10000 30 (.agg #[.int .i64 a, .int .i64 b, .int .i64 c, .string d, .int .i64 e]) (.agg #[.int .i64 a', .int .i64 b', .int .i64 c', .string d', .int .i64 e'])).run Try.prog t = .ok (a == a' && (b == b' && (c == c' && (d == d' && e == e')))) t := by
  rw [run_equalIn_struct (d := 9999) t 30 _ _ (by kernel_rfl) (by kernel_rfl)]
  have hf : (Try.prog.fieldsOf 30).toList.map (fun f => (f.name, f.type, f.offset)) = [("Id", 3, 0), ("From", 3, 1), ("To", 3, 2), ("Data", 9, 3), ("Due", 3, 4)] := by kernel_rfl
  generalize (Try.prog.fieldsOf 30).toList = fs at hf
  have hl : fs.length = 5 := by simpa using congrArg List.length hf
  match fs, hl with
  | [f0, f1, f2, f3, f4], _ =>
    simp only [List.map_cons, List.map_nil, List.cons.injEq, Prod.mk.injEq, and_true] at hf
    obtain ⟨⟨h0, t0, o0⟩, ⟨h1, t1, o1⟩, ⟨h2, t2, o2⟩, ⟨h3, t3, o3⟩, ⟨h4, t4, o4⟩⟩ := hf
    simp [Op.eqFields, h0, h1, h2, h3, h4, t0, t1, t2, t3, t4, o0, o1, o2, o3, o4, go_sem]
    rw [beq_toListBytes]
    by_cases e0 : a = a' <;> by_cases e1 : b = b' <;> by_cases e2 : c = c' <;> by_cases e3 : d.toList = d'.toList <;> by_cases e4 : e = e' <;> simp [e0, e1, e2, e3, e4]
theorem netT_perm {b : Nat} {s : Ns} {l1 l : List Pk} {F : Foot} {W : World} (h : (netT b (withL s l1)).holds F W) (hp : l1.Perm l) : (netT b (withL s l)).holds F W := by
  obtain ⟨m, v, l', hn, hh, hp', hF⟩ := h
  exact ⟨m, v, l', hn, hh, hp'.trans hp, hF⟩
/-- Next, where one packet is ahead of all others -/
theorem next_one {W0 W : World} {L : List Th} (h : Zoo W0 W L) (i b : Nat) (s : Ns) (hi : L[i]? = some (netT b s)) (p : Pk) (l : List Pk) (hs : s.l = p :: l) (hl : s.l.length ≤ 512) (hg : Good s.l) (hlt : ∀ q ∈ l, ltP p q) (hd : p.due ≤ s.now) (hC : s.C (lo p.src p.dst) (Go.Proofs.Ytjopbglimjhefaa.hi p.src p.dst) = false) :
    Calls Try.prog 13 #[.pointer (some ⟨b, 0, none⟩)] W fun e w' => e = .returned (.tuple #[.agg (pkArr p), .bool true]) ∧ Zoo W0 w' (L.set i (netT b (withL s l))) := by
  refine (next_zoo h i b s hi hl hg).mono ?_
  rintro e w' ⟨r, l2, rfl, hr, hz⟩
  have hr := hr.out
  rw [hs] at hr
  obtain ⟨rfl, hp⟩ := hr.one hlt hd hC
  refine ⟨rfl, ?_⟩
  have := hz.turn i (netT b (withL s l2)) (netT b (withL s l)) (by rw [List.getElem?_set_self (List.getElem?_eq_some_iff.1 hi).1]) (fun F h => netT_perm h hp)
  rwa [List.set_set] at this
/-- Next, where the time of none has come -/
theorem next_no {W0 W : World} {L : List Th} (h : Zoo W0 W L) (i b : Nat) (s : Ns) (hi : L[i]? = some (netT b s)) (hl : s.l.length ≤ 512) (hg : Good s.l) (hd : ∀ q ∈ s.l, (s.now : Int) < q.due) :
    Calls Try.prog 13 #[.pointer (some ⟨b, 0, none⟩)] W fun e w' => e = .returned (.tuple #[.agg (pkArr Pk.zero), .bool false]) ∧ Zoo W0 w' (L.set i (netT b s)) := by
  refine (next_zoo h i b s hi hl hg).mono ?_
  rintro e w' ⟨r, l2, rfl, hr, hz⟩
  obtain ⟨rfl, rfl⟩ := hr.out.later hd
  exact ⟨rfl, hz⟩
set_option maxRecDepth 100000 in
set_option maxHeartbeats 4000000 in
theorem alive_any (W : World) : Calls Try.prog 8 #[] W fun e w' => e = .returned (.bool true) ∧ Hid (Below W.heap.size W w') := by
  have hnew := Lib.hid (new_zoo (Zoo.nil W))
  go_enter Try.func8, Try.ntmps8
  go_wp2_with fail
  refine hnew.out.mono ?_
  rintro e w1 ⟨b, rfl, hz⟩
  have hc := send_zoo hz 0 b Ns.new rfl (by decide) (by decide) (by decide) 1 2 (ByteArray.mk #[97]) 2
  rw [al_send1] at hc
  replace hc := Lib.hid hc
  clear hnew hz
  go_wp2_with fail
  refine hc.out.mono ?_
  rintro e w2 ⟨rfl, hz⟩
  have hc2 := send_zoo hz 0 b als1 rfl (by decide) (by decide) (by decide) 2 1 (ByteArray.mk #[98]) 0
  rw [al_send2] at hc2
  replace hc2 := Lib.hid hc2
  clear hc hz
  go_wp2_with fail
  refine hc2.out.mono ?_
  rintro e w3 ⟨rfl, hz⟩
  have hc := next_one hz 0 b als2 rfl apk2 [apk1] rfl (by decide) (good_al (by simp [als2])) (by decide) (by decide) rfl
  simp only [pkArr, apk2] at hc
  replace hc := Lib.hid hc
  clear hc2 hz
  go_wp2_with fail
  refine hc.out.mono ?_
  rintro e w4 ⟨rfl, hz⟩
  replace hz : Zoo W w4 [netT b als3] := hz
  replace hz := hz.newBox (pkArr apk2) 30
  replace hz := Lib.hid hz
  clear hc
  go_wp2_with fail
  have hc := next_no hz.out 1 b als3 rfl (by decide) (good_al (by simp [als3])) (by simp [als3, apk1])
  simp only [pkArr, Pk.zero] at hc
  replace hc := Lib.hid hc
  clear hz
  refine hc.out.mono ?_
  rintro e w5 ⟨rfl, hz⟩
  replace hz : Zoo W w5 [boxT w4.heap.size (pkArr apk2) 30, netT b als3] := hz
  replace hz := Lib.hid (hz.alloc (.cells (pkArr Pk.zero) 30))
  clear hc
  go_wp2_with fail
  have hc := Lib.hid (tick_zoo hz.out 1 b als3 rfl (by decide))
  clear hz
  refine hc.out.mono ?_
  rintro e w6 ⟨rfl, hz⟩
  replace hz : Zoo W w6 [boxT w4.heap.size (pkArr apk2) 30, netT b als4] := hz
  have hc2 := Lib.hid (tick_zoo hz 1 b als4 rfl (by decide))
  clear hc hz
  go_wp2_with fail
  refine hc2.out.mono ?_
  rintro e w7 ⟨rfl, hz⟩
  replace hz : Zoo W w7 [boxT w4.heap.size (pkArr apk2) 30, netT b als5] := hz
  have hc := next_one hz 1 b als5 rfl apk1 [] rfl (by decide) (good_al (by simp [als5])) (by simp) (by decide) rfl
  simp only [pkArr, apk1] at hc
  replace hc := Lib.hid hc
  clear hc2 hz
  go_wp2_with fail
  refine hc.out.mono ?_
  rintro e w8 ⟨rfl, hz⟩
  replace hz : Zoo W w8 [boxT w4.heap.size (pkArr apk2) 30, netT b (withL als5 [])] := hz
  obtain ⟨hbx, -⟩ := hz.box 0 rfl
  generalize w4.heap.size = B at hbx hz ⊢
  have hlt : B < w8.heap.size := (Array.getElem?_eq_some_iff.1 hbx).1
  have hne : B ≠ w8.heap.size := by omega
  have a0 : w8.cell? ⟨B, 0, none⟩ = some (.int .i64 2) := box_cell hbx 0
  have a1 : w8.cell? ⟨B, 1, none⟩ = some (.int .i64 2) := box_cell hbx 1
  have a2 : w8.cell? ⟨B, 2, none⟩ = some (.int .i64 1) := box_cell hbx 2
  have a3 : w8.cell? ⟨B, 3, none⟩ = some (.string (ByteArray.mk #[98])) := box_cell hbx 3
  have a4 : w8.cell? ⟨B, 4, none⟩ = some (.int .i64 0) := box_cell hbx 4
  have hz2 := hz.alloc (.cells (pkArr apk1) 30)
  have hnow := Lib.hid (now_zoo hz2 1 b (withL als5 []) rfl)
  have hB := Lib.hid hz2.bel
  clear hc hz hz2 hbx
  go_wp2_with fail
  refine hnow.out.mono ?_
  rintro e w9 ⟨rfl, rfl⟩
  go_wp2_with fail
  go_ret
  exact ⟨rfl, hB⟩
set_option maxRecDepth 100000 in
set_option maxHeartbeats 4000000 in
theorem netNil_any (a b : Int) (s : ByteArray) (W : World) : Calls Try.prog 7 #[.int .i64 a, .int .i64 b, .string s] W fun e w' => e = .returned (.bool true) ∧ Below W.heap.size W w' := by
  have hc0 := Lib.hid (tick_nil W)
  have hc1 := Lib.hid (send_nil 1 2 s 0 W)
  go_enter Try.func7, Try.ntmps7
  go_wp2_with fail
  refine hc0.out.mono ?_
  rintro e w1 ⟨rfl, rfl⟩
  clear hc0
  go_wp2_with fail
  refine hc1.out.mono ?_
  rintro e w2 ⟨rfl, hB2⟩
  clear hc1
  have hc := Lib.hid (double_nil a b w2)
  go_wp2_with fail
  refine hc.out.mono ?_
  rintro e w3 ⟨rfl, hB⟩
  have hB3 := Lib.hid (hB2.out.trans (hB.out.mono hB2.out.size))
  clear hc hB hB2
  have hc := Lib.hid (next_nil w3)
  simp only [pkArr, Pk.zero] at hc
  go_wp2_with fail
  refine hc.out.mono ?_
  rintro e w4 ⟨rfl, hB⟩
  have hB4 := Lib.hid ((hB3.out.trans (hB.out.mono hB3.out.size)).alloc (Nat.le_trans hB3.out.size hB.out.size) (.cells (pkArr Pk.zero) 30))
  have hP : PkAt (w4.alloc (.cells (pkArr Pk.zero) 30)) w4.heap.size Pk.zero := heap_alloc_new _ _
  have hc2 := Lib.hid (alive_any (w4.alloc (.cells (pkArr Pk.zero) 30)))
  replace hP := Lib.hid hP
  simp only [pkArr, Pk.zero] at hP hB4 hc2
  clear hc hB hB3
  go_wp2_with fail
  refine hc2.out.mono ?_
  rintro e w6 ⟨rfl, hB⟩
  generalize w4.heap.size = B at hP ⊢
  have hP6 := hP.out.below hB.out
  replace hB4 := Lib.hid (hB4.out.trans (hB.out.mono hB4.out.size))
  obtain ⟨a0, a1, a2, a3, a4, -⟩ := hP6.cells
  dsimp only at a0 a1 a2 a3 a4
  clear hc2 hP hB hP6
  have hc := Lib.hid (lose_nil a w6)
  go_wp2_with fail
  refine hc.out.mono ?_
  rintro e w7 ⟨rfl, hB⟩
  replace hB4 := Lib.hid (hB4.out.trans (hB.out.mono hB4.out.size))
  clear hc hB
  have hc := Lib.hid (late_nil a b w7)
  go_wp2_with fail
  refine hc.out.mono ?_
  rintro e w8 ⟨rfl, hB⟩
  replace hB4 := Lib.hid (hB4.out.trans (hB.out.mono hB4.out.size))
  clear hc hB
  have hc := Lib.hid (cut_nil 1 2 true w8)
  go_wp2_with fail
  refine hc.out.mono ?_
  rintro e w9 ⟨rfl, hB⟩
  replace hB4 := Lib.hid (hB4.out.trans (hB.out.mono hB4.out.size))
  clear hc hB
  have hc := Lib.hid (all_nil w9)
  go_wp2_with fail
  refine hc.out.mono ?_
  rintro e w10 ⟨rfl, rfl⟩
  clear hc
  have hc := Lib.hid (now_nil w10)
  go_wp2_with fail
  refine hc.out.mono ?_
  rintro e w11 ⟨rfl, rfl⟩
  go_wp2_with fail
  go_ret
  exact ⟨rfl, hB4.out⟩
theorem netNil_card (a b : Int) (s : ByteArray) (_ : (Lit.int .i64 a).wf = true) (_ : (Lit.int .i64 b).wf = true) (_ : s.size ≤ reachBytes) (W : World) : Calls Try.prog 7 #[.int .i64 a, .int .i64 b, .string s] W fun e w' => e = .returned (.bool true) ∧ Below W.heap.size W w' := netNil_any a b s W
end Go.Proofs.Ytjopbglimjhefaa
