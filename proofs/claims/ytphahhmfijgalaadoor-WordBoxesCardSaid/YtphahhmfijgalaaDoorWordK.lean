/- The walks of the statements WordBack and WordBoxes: each answers true, and turns nothing that was there. -/
import Derived.Test.YtphahhmfijgalaaDoorWordP
import Derived.Lib.SlBytesConst
namespace Go.Proofs.YtphahhmfijgalaaDoor
open Go.RowKit

theorem unqN_none : unqN none = 0 := rfl
theorem unqN_some (t : List UInt8) (n : Nat) : unqN (some (t, n)) = n := rfl
theorem quoteL_len (l : List UInt8) (h : quoteOk l = true) : (quoteL l).length ≤ 1026 := by
  have h1 := ((quoteOk_iff l).1 h).1
  have h2 := escL_len l
  rw [quoteL, h, if_pos rfl]; simp; omega
set_option maxHeartbeats 2000000 in
theorem wordBack_any (s b : ByteArray) (hs : s.size ≤ 140737488351232) (hbs : b.size ≤ 140737488351232) (w : World) (ht : Tab w) :
    Calls Tryd.prog 5 #[.string s, .string b] w fun e w' => e = .returned (.bool true) ∧ Below w.heap.size w w' := by
  have hs' : s.size ≤ maxLen := by unfold maxLen; omega
  go_enter Tryd.func5, Tryd.ntmps5
  go_wp2_with fail
  refine (alive_any _ ht).mono ?_
  rintro e w1 ⟨rfl, b1⟩
  go_wp2_with fail
  refine (quoteS_any s hs' _).mono ?_
  rintro e w2 ⟨q, rfl, hq, b2⟩
  have b2 := below_mono b1 b1.size b2
  cases hk : quoteOk s.data.toList
  case' true =>
    have hql : q.size ≤ 1026 := by rw [size_len, hq.out]; exact quoteL_len _ hk
    have hun : Hid (unqL (q ++ b).data.toList = some (s.data.toList, q.size)) := by
      show _ = _
      rw [toList_app, hq.out, unq_back _ _ hk, size_len, hq.out]
    go_wp2_with fail
    refine (unquoteS_any (q ++ b) (by rw [ByteArray.size_append]; omega) _).mono ?_
    rintro e w3 ⟨u, rfl, hu, b3⟩
    have b3 := below_mono b2 b2.size b3
    have eu : (u.toList == s.toList) = true := eqS (l := s.data.toList) (hu.out.trans (by rw [hun.out]; rfl)) rfl
    have eu' : (u.toList != s.toList) = false := by rw [bne, eu]; rfl
    rw [show unqN (unqL (q ++ b).data.toList) = q.size from by rw [hun.out]; rfl, show (unqL (q ++ b).data.toList).isSome = true from by rw [hun.out]; rfl]
    clear hu hq hk
    go_wp2_with fail
  case' false =>
    have b3 := b2
    go_wp2_with fail
  all_goals
    refine (unquoteS_any s (by omega) _).mono ?_
    rintro e w4 ⟨u4, rfl, h4, b4⟩
    have b4 := below_mono b3 b3.size b4
    cases ho : unqL s.data.toList with
    | none =>
      rw [ho] at h4
      have he : u4.toList.isEmpty = true := by rw [ByteArray.toList_eq, h4.out]; rfl
      rw [unqN_none, Option.isSome_none]
      clear h4 ho
      go_wp2_with fail
      go_ret
      exact ⟨rfl, b4⟩
    | some p =>
      obtain ⟨t, n⟩ := p
      rw [ho] at h4
      have h4 : Hid (u4.data.toList = t) := h4
      obtain ⟨hk4, hn, hq4⟩ := unq_quotes _ _ _ ho
      rw [← size_len] at hn
      have hl4 := Lib.hid ((quoteOk_iff t).1 hk4).1
      replace hk4 := Lib.hid hk4
      replace hq4 := Lib.hid hq4
      rw [unqN_some, Option.isSome_some]
      clear ho
      go_wp2_with fail
      refine (quoteS_any u4 (by rw [size_len, h4.out]; have := hl4.out; unfold maxLen; omega) _).mono ?_
      rintro e w5 ⟨q5, rfl, h5, b5⟩
      have b5 := below_mono b4 b4.size b5
      rw [show quoteOk u4.data.toList = true from by rw [h4.out]; exact hk4.out]
      have e5 : (q5.toList == (s.extract 0 n).toList) = true := eqS (l := quoteL t) (by rw [← h4.out]; exact h5.out) (by show _ = _; rw [ext_list, hq4.out]; simp)
      clear h4 h5
      go_wp2_with fail
      go_ret
      exact ⟨rfl, b5⟩

/-- behind k rounds -/
def inboxAt (bl : List Bool) (k : Nat) : List UInt8 := (List.range 5).map fun j => smallOf (inboxL.getD j 0) (decide (j < k) && bl.getD j false)
theorem inboxAt_0 (bl : List Bool) : inboxAt bl 0 = inboxL := by
  simp [inboxAt, List.range, List.range.loop, inboxL, smallOf]
theorem inboxAt_len (bl : List Bool) (k : Nat) : (inboxAt bl k).length = 5 := by simp [inboxAt]
theorem inboxAt_get (bl : List Bool) (k : Nat) (h : k < 5) : (inboxAt bl k).getD k 0 = inboxL.getD k 0 := by
  simp [inboxAt, List.getD, h, smallOf]
theorem inboxAt_no (bl : List Bool) (k : Nat) (hb : bl.getD k false = false) : inboxAt bl (k + 1) = inboxAt bl k := by
  unfold inboxAt
  refine List.map_congr_left fun j _ => ?_
  by_cases hj : j = k
  · subst hj; rw [hb]; simp
  · rw [show decide (j < k + 1) = decide (j < k) from by simp; omega]
theorem inboxAt_yes (bl : List Bool) (k : Nat) (h : k < 5) (hb : bl.getD k false = true) : inboxAt bl (k + 1) = (inboxAt bl k).set k (inboxL.getD k 0 + 32) := by
  match k, h, hb with
  | 0, _, hb => simp [inboxAt, List.range, List.range.loop, smallOf] at hb ⊢; simp [hb]
  | 1, _, hb => simp [inboxAt, List.range, List.range.loop, smallOf] at hb ⊢; simp [hb]
  | 2, _, hb => simp [inboxAt, List.range, List.range.loop, smallOf] at hb ⊢; simp [hb]
  | 3, _, hb => simp [inboxAt, List.range, List.range.loop, smallOf] at hb ⊢; simp [hb]
  | 4, _, hb => simp [inboxAt, List.range, List.range.loop, smallOf] at hb ⊢; simp [hb]
theorem inbox_bd (k : Nat) (h : k < 5) : 66 ≤ (inboxL.getD k 0).toNat ∧ (inboxL.getD k 0).toNat ≤ 88 := by
  match k, h with
  | 0, _ => decide
  | 1, _ => decide
  | 2, _ => decide
  | 3, _ => decide
  | 4, _ => decide
theorem add32 (c : UInt8) (h : c.toNat ≤ 88) : (c.toNat : Int) + 32 = ((c + 32).toNat : Int) := by
  rw [UInt8.toNat_add]; show _ = (((c.toNat + 32) % 2 ^ 8 : Nat) : Int); omega
theorem inboxAt_5 (b0 b1 b2 b3 b4 : Bool) : inboxAt [b0, b1, b2, b3, b4] 5 = inboxS b0 b1 b2 b3 b4 := by
  simp [inboxAt, List.range, List.range.loop, inboxS, inboxL]
theorem byteRow_new (w : World) (e : TypeId) (l : List UInt8) : ByteRow (w.alloc (.cells (Lib.byteCells l).toArray e)) w.heap.size e l := by
  refine ⟨_, _, heap_alloc_new w _, by simp [Lib.byteCells], fun j hj => ?_, .inl rfl⟩
  simp [Lib.byteCells, List.getD, hj]
theorem byteRow_alloc {w : World} {g : Nat} {e : TypeId} {l : List UInt8} (h : ByteRow w g e l) (o : Obj) (hg : g < w.heap.size) : ByteRow (w.alloc o) g e l := h.of_block (Below.heap_alloc w o g hg)
theorem byteRow_mark (w : World) (e : TypeId) (l : List UInt8) (C : Array Value) (hC : C = (Lib.byteCells l).toArray) (fr : Nat × Nat) (hf : l.length ≤ fr.1) : ByteRow (w.alloc (.cells C e fr)) w.heap.size e l := by
  subst hC
  refine ⟨_, _, heap_alloc_new w _, by simp [Lib.byteCells], fun j hj => ?_, .inr hf⟩
  simp [Lib.byteCells, List.getD, hj]
set_option maxHeartbeats 2000000 in
theorem wordBoxes_any (s : ByteArray) (c0 c1 c2 c3 c4 : Bool) (hs : s.size ≤ 140737488351232) (w : World) (ht : Tab w) :
    Calls Tryd.prog 6 #[.string s, .agg #[.bool c0, .bool c1, .bool c2, .bool c3, .bool c4]] w fun e w' => e = .returned (.bool true) ∧ Below w.heap.size w w' := by
  have hs' : s.size ≤ maxLen := by unfold maxLen; omega
  obtain ⟨bl, hbl⟩ : ∃ bl, bl = [c0, c1, c2, c3, c4] := ⟨_, rfl⟩
  replace hbl := Lib.hid hbl
  go_enter Tryd.func6, Tryd.ntmps6
  go_wp2_with fail
  have bA : Below w.heap.size w (w.alloc (.cells #[.bool c0, .bool c1, .bool c2, .bool c3, .bool c4] 30)) := (Below.refl _ _).alloc (Nat.le_refl _) _
  refine (alive_any _ (ht.later bA)).mono ?_
  rintro e w1 ⟨rfl, b1'⟩
  have hcs : ∀ k, k < 5 → w1.cell? ⟨w.heap.size, k, none⟩ = some (.bool (bl.getD k false)) := fun k hk => by
    rw [b1'.cell (p := ⟨w.heap.size, k, none⟩) (by simp), World.cell?_alloc_new, hbl.out]
    match k, hk with
    | 0, _ => rfl
    | 1, _ => rfl
    | 2, _ => rfl
    | 3, _ => rfl
    | 4, _ => rfl
  have hlt1 : w.heap.size < w1.heap.size := by have := b1'.size; simp at this; omega
  have b1 := below_mono bA bA.size b1'
  replace hcs := Lib.hid hcs
  clear b1' bA
  have kc := fun (w : World) (C : Array Value) (n c : Nat) => Lib.run_convert_bytes_const (P := Tryd.prog) w 31 5 C n c Tryd.underlying31 Tryd.underlying5
  go_wp2_with fail
  clear kc
  go_loopw [6] (fun i wr => ∃ k : Nat, k ≤ 5 ∧ i = .int .i64 k ∧ ByteRow wr w1.heap.size 5 (inboxAt bl k) ∧ Below w1.heap.size w1 wr) (fun i _ => 5 - (intOf i).toNat)
  case atStart => exact ⟨0, by omega, rfl, by rw [inboxAt_0]; exact byteRow_mark _ _ inboxL _ rfl _ (Nat.le_refl _), (Below.refl _ _).alloc (Nat.le_refl _) _⟩
  case round =>
    obtain ⟨k, hk, rfl, hr, hb⟩ := hrel
    by_cases hlt : k < 5
    · have hc := (hb.cell (p := ⟨w.heap.size, k, none⟩) hlt1).trans (hcs.out k hlt)
      have hx := hr.cell k (by rw [inboxAt_len]; exact hlt)
      have hf := hr.free k (by rw [inboxAt_len]; exact hlt)
      rw [inboxAt_get bl k hlt] at hx
      have hbd := inbox_bd k hlt
      obtain ⟨c, hcv⟩ : ∃ c, c = inboxL.getD k 0 := ⟨_, rfl⟩
      rw [← hcv] at hx hbd
      obtain ⟨hbd1, hbd2⟩ := hbd
      cases hbk : bl.getD k false
      · rw [hbk] at hc
        have e1 := Lib.hid (inboxAt_no bl k hbk)
        clear hcv hbk
        go_wp2_with fail
        exact ⟨⟨k + 1, by omega, by go_num, by rw [e1.out]; exact hr, hb⟩, by simp [intOf]; omega⟩
      · rw [hbk] at hc
        have e1 := Lib.hid (inboxAt_yes bl k hlt hbk)
        replace hcv := Lib.hid hcv
        clear hbk
        go_wp2_with fail
        exact ⟨⟨k + 1, by omega, by go_num, by rw [e1.out, ← hcv.out]; exact hr.set k (by rw [inboxAt_len]; exact hlt) _ _ (by rw [add32 c hbd2]), hb.setCell (Nat.le_refl _) _⟩, by simp [intOf]; omega⟩
    · obtain rfl : k = 5 := by omega
      have kb := hr.back (P := Tryd.prog) 31 9 5 5 Tryd.underlying31 Tryd.underlying5 Tryd.underlying9 (by rw [inboxAt_len])
      have hbx : Hid (boxOk (inboxAt bl 5) = true ∧ boxL (inboxAt bl 5) = inboxL) := by rw [hbl.out, inboxAt_5]; exact inbox_any _ _ _ _ _
      have b2 := b1.trans (hb.mono b1.size)
      go_wp2_with fail
      refine (box_any ⟨(inboxAt bl 5).toArray⟩ (by show (inboxAt bl 5).length ≤ _; rw [inboxAt_len]; decide) _).mono ?_
      rintro e w2 ⟨u, rfl, hu, b3⟩
      have b3 := below_mono b2 b2.size b3
      have hu : Hid (u.data.toList = inboxL) := hu.out.trans hbx.out.2
      have eu : (u.toList == [73, 78, 66, 79, 88]) = true := eqT hu rfl
      have eu' : (u.toList != [73, 78, 66, 79, 88]) = false := by rw [bne, eu]; rfl
      rw [show boxOk (ByteArray.mk (inboxAt bl 5).toArray).data.toList = true from hbx.out.1]
      clear hu kb
      go_wp2_with fail
      refine (box_any s hs' _).mono ?_
      rintro e w3 ⟨a, rfl, ha, b4⟩
      have b4 := below_mono b3 b3.size b4
      cases hk : boxOk s.data.toList
      · have ea : a.toList.isEmpty = true := by rw [ByteArray.toList_eq, ha.out, box_no hk]; rfl
        clear ha
        go_wp2_with fail
        go_ret
        exact ⟨rfl, b4⟩
      · obtain ⟨g1, g2, g3, g4⟩ := box_again _ hk
        replace g1 := Lib.hid g1
        replace g2 := Lib.hid g2
        have hsz : (a.size : Int) = s.size := by rw [size_len, ha.out, g3, ← size_len]
        replace g3 := Lib.hid g3
        replace g4 := Lib.hid g4
        have ha' : a.size ≤ maxLen := by unfold maxLen; omega
        have ez : ((a.size : Int) == s.size) = true := by rw [hsz]; simp
        clear hsz
        go_wp2_with fail
        refine (box_any a ha' _).mono ?_
        rintro e w4 ⟨b, rfl, hb', b5⟩
        have b5 := below_mono b4 b4.size b5
        have e1 : (b.toList == a.toList) = true := eqS (l := boxL s.data.toList) (by show _ = _; rw [hb'.out, ha.out, g2.out]) ha
        rw [show boxOk a.data.toList = true from by rw [ha.out]; exact g1.out]
        go_wp2_with fail
        refine (upperS_any a ha' _).mono ?_
        rintro e w5 ⟨u5, rfl, h5, b6⟩
        have b6 := below_mono b5 b5.size b6
        go_wp2_with fail
        refine (upperS_any s hs' _).mono ?_
        rintro e w6 ⟨u6, rfl, h6, b7⟩
        have b7 := below_mono b6 b6.size b7
        have e2 : (u5.toList == u6.toList) = true := eqS (l := upL s.data.toList) (by show _ = _; rw [h5.out, ha.out, g4.out]) h6
        go_wp2_with fail
        go_ret
        exact ⟨rfl, b7⟩
end Go.Proofs.YtphahhmfijgalaaDoor
