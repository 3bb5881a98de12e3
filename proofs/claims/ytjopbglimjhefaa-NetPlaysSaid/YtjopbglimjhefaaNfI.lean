/- The document's net among other things: what its calls do to it. -/
import Derived.Test.YtjopbglimjhefaaNfH
import Derived.Test.YtjopbglimjhefaaNeU
namespace Go.Proofs.Ytjopbglimjhefaa
open Go.RowKit Go.Maps Go.WideMaps

variable {W0 W : World} {L : List Th}
theorem refSend_zoo (h : Zoo W0 W L) (i b : Nat) (r : Rs) (hi : L[i]? = some (refT b r)) (hnow : r.now < 1000000) (hlast : r.last < 1000000) (hl : r.l.length ≤ 600) (x y : Int) (t : ByteArray) (d : Int) :
    Calls Try.prog 27 #[.pointer (some ⟨b, 0, none⟩), .int .i64 x, .int .i64 y, .string t, .int .i64 d] W fun e w' =>
      e = .returned (.tuple #[.int .i64 (sendR r x y t d).1, .int .i64 (sendR r x y t d).2.1]) ∧ Zoo W0 w' (L.set i (refT b (sendR r x y t d).2.2)) := by
  obtain ⟨F, ⟨v, hn, hF⟩, hlow, hact⟩ := h.act i _ hi
  refine (refSend_any b v r x y t d hnow hlast hl W hn).mono ?_
  rintro e w' ⟨h1, v', h2, h3⟩
  exact ⟨h1, hact _ (refFoot b v') w' ⟨v', h2.out, fun _ => Iff.rfl⟩ (grows_ref hF h3.out.1 h3.out.2)⟩
theorem refLose_zoo (h : Zoo W0 W L) (i b : Nat) (r : Rs) (hi : L[i]? = some (refT b r)) (hl : r.l.length ≤ 600) (id : Int) :
    Calls Try.prog 29 #[.pointer (some ⟨b, 0, none⟩), .int .i64 id] W fun e w' => ∃ (x : Int) (r' : Rs), e = .returned (.int .i64 x) ∧ Hid (LoseR r id x r') ∧ Zoo W0 w' (L.set i (refT b r')) := by
  obtain ⟨F, ⟨v, hn, hF⟩, hlow, hact⟩ := h.act i _ hi
  refine (refLose_any b v r id hl W hn).mono ?_
  rintro e w' ⟨x, r', v', h1, h2, h3, h4⟩
  exact ⟨x, r', h1, h2, hact _ (refFoot b v') w' ⟨v', h3.out, fun _ => Iff.rfl⟩ (grows_ref hF h4.out.1 h4.out.2)⟩
theorem refLate_zoo (h : Zoo W0 W L) (i b : Nat) (r : Rs) (hi : L[i]? = some (refT b r)) (hnow : r.now < 1000000) (hl : r.l.length ≤ 600) (id d : Int) :
    Calls Try.prog 31 #[.pointer (some ⟨b, 0, none⟩), .int .i64 id, .int .i64 d] W fun e w' => ∃ (x : Int) (r' : Rs), e = .returned (.int .i64 x) ∧ Hid (LateR r id d x r') ∧ Zoo W0 w' (L.set i (refT b r')) := by
  obtain ⟨F, ⟨v, hn, hF⟩, hlow, hact⟩ := h.act i _ hi
  refine (refLate_any b v r id d hnow hl W hn).mono ?_
  rintro e w' ⟨x, r', v', h1, h2, h3, h4⟩
  exact ⟨x, r', h1, h2, hact _ (refFoot b v') w' ⟨v', h3.out, fun _ => Iff.rfl⟩ (grows_ref hF h4.out.1 h4.out.2)⟩
theorem refDouble_zoo (h : Zoo W0 W L) (i b : Nat) (r : Rs) (hi : L[i]? = some (refT b r)) (hnow : r.now < 1000000) (hlast : r.last < 1000000) (hl : r.l.length ≤ 600) (id d : Int) :
    Calls Try.prog 30 #[.pointer (some ⟨b, 0, none⟩), .int .i64 id, .int .i64 d] W fun e w' => ∃ x : Int × Int × Rs, e = .returned (.tuple #[.int .i64 x.1, .int .i64 x.2.1]) ∧ Hid (DoubleR r id d x) ∧ Zoo W0 w' (L.set i (refT b x.2.2)) := by
  obtain ⟨F, ⟨v, hn, hF⟩, hlow, hact⟩ := h.act i _ hi
  refine (refDouble_any b v r id d hnow hlast hl W hn).mono ?_
  rintro e w' ⟨x, v', h1, h2, h3, h4⟩
  exact ⟨x, h1, h2, hact _ (refFoot b v') w' ⟨v', h3.out, fun _ => Iff.rfl⟩ (grows_ref hF h4.out.1 h4.out.2)⟩
theorem refCut_zoo (h : Zoo W0 W L) (i b : Nat) (r : Rs) (hi : L[i]? = some (refT b r)) (x y : Int) (c : Bool) :
    Calls Try.prog 32 #[.pointer (some ⟨b, 0, none⟩), .int .i64 x, .int .i64 y, .bool c] W fun e w' => e = .returned (.int .i64 (cutR r x y c).1) ∧ Zoo W0 w' (L.set i (refT b (cutR r x y c).2)) := by
  obtain ⟨F, ⟨v, hn, hF⟩, hlow, hact⟩ := h.act i _ hi
  refine (refCut_any b v r x y c W hn).mono ?_
  rintro e w' ⟨h1, h2, h3⟩
  exact ⟨h1, hact _ (refFoot b v) w' ⟨v, h2.out, fun _ => Iff.rfl⟩ (grows_ref hF h3.out (Later.refl _ _))⟩
theorem refNext_zoo (h : Zoo W0 W L) (i b : Nat) (r : Rs) (hi : L[i]? = some (refT b r)) (C : Int → Int → Bool) (hl : r.l.length ≤ 600) (hrise : r.l.Pairwise (fun p q => p.id < q.id)) (hg : ∀ q ∈ r.l, linkB q.src q.dst = true) (hC : ∀ q ∈ r.l, cutAt r.cs q.src q.dst = C (lo q.src q.dst) (Go.Proofs.Ytjopbglimjhefaa.hi q.src q.dst)) :
    Calls Try.prog 28 #[.pointer (some ⟨b, 0, none⟩)] W fun e w' => ∃ (ok : Bool) (q : Pk) (r' : Rs), e = .returned (.tuple #[.agg #[.int .i64 q.id, .int .i64 q.src, .int .i64 q.dst, .string q.data, .int .i64 q.due], .bool ok]) ∧ Hid (NextD r C (if ok = true then Option.some q else Option.none) r' ∧ (ok = false → q = Pk.zero)) ∧ Zoo W0 w' (L.set i (refT b r')) := by
  obtain ⟨F, ⟨v, hn, hF⟩, hlow, hact⟩ := h.act i _ hi
  refine (refNext_any b v r C hl hrise hg hC W hn).mono ?_
  rintro e w' ⟨p, v', r', h1, h3, h2, h4⟩
  have hz := hact (refT b r') (refFoot b v') w' ⟨v', h3.out, fun _ => Iff.rfl⟩ (grows_ref hF h4.out.1 h4.out.2)
  cases p with
  | none => exact ⟨false, Pk.zero, r', h1, Lib.hid ⟨h2.out, fun _ => rfl⟩, hz⟩
  | some q => exact ⟨true, q, r', h1, Lib.hid ⟨h2.out, fun h => by cases h⟩, hz⟩
/-- Next of the program's net, with what it hands back where nothing comes -/
theorem next_zoo3 {W0 W : World} {L : List Th} (h : Zoo W0 W L) (i b : Nat) (s : Ns) (hi : L[i]? = some (netT b s)) (hl : s.l.length ≤ 512) (hg : Good s.l) :
    Calls Try.prog 13 #[.pointer (some ⟨b, 0, none⟩)] W fun e w' => ∃ (ok : Bool) (q : Pk) (l2 : List Pk), e = .returned (.tuple #[.agg #[.int .i64 q.id, .int .i64 q.src, .int .i64 q.dst, .string q.data, .int .i64 q.due], .bool ok]) ∧ Hid (NextR s.now s.C s.l (if ok = true then Option.some q else Option.none) l2 ∧ (ok = false → q = Pk.zero)) ∧ Zoo W0 w' (L.set i (netT b (withL s l2))) := by
  refine (next_zoo h i b s hi hl hg).mono ?_
  rintro e w' ⟨r, l2, rfl, hr, hz⟩
  cases r with
  | none => exact ⟨false, Pk.zero, l2, rfl, Lib.hid ⟨hr.out, fun _ => rfl⟩, hz⟩
  | some q => exact ⟨true, q, l2, rfl, Lib.hid ⟨hr.out, fun h => by cases h⟩, hz⟩
/-- the document's time goes on -/
theorem ref_tick (h : Zoo W0 W L) (i b : Nat) (r : Rs) (hi : L[i]? = some (refT b r)) : W.cell? ⟨b, 1, none⟩ = some (.int .i64 r.now) ∧ W.frozen? ⟨b, 1, none⟩ = false ∧ b < W.heap.size ∧ Zoo W0 (W.setCell ⟨b, 1, none⟩ (.int .i64 ((r.now + 1 : Nat) : Int))) (L.set i (refT b ⟨r.l, r.now + 1, r.last, r.cs⟩)) := by
  obtain ⟨F, ⟨v, hn, hF⟩, hlow, hact⟩ := h.act i _ hi
  have h2 := hn.setNow (r.now + 1)
  exact ⟨hn.c1, hn.free 1, hn.lt, hact _ (refFoot b v) _ ⟨v, h2.1, fun _ => Iff.rfl⟩ (grows_ref hF h2.2 (Later.refl _ _))⟩
theorem ref_now (h : Zoo W0 W L) (i b : Nat) (r : Rs) (hi : L[i]? = some (refT b r)) : W.cell? ⟨b, 1, none⟩ = some (.int .i64 r.now) := by
  obtain ⟨F, ⟨v, hn, hF⟩, hlow, hact⟩ := h.act i _ hi
  exact hn.c1
theorem ref_row (h : Zoo W0 W L) (i b : Nat) (r : Rs) (hi : L[i]? = some (refT b r)) : ∃ v, W.cell? ⟨b, 0, none⟩ = some v ∧ OwnP W v r.l := by
  obtain ⟨F, ⟨v, hn, hF⟩, hlow, hact⟩ := h.act i _ hi
  exact ⟨v, hn.c0, hn.own⟩
/-- a new net of the document's -/
theorem ref_new (h : Zoo W0 W L) : Zoo W0 (W.alloc (.cells (refCells (.slice none 0 0) ⟨[], 0, 0, List.replicate 36 false⟩).toArray 44)) (refT W.heap.size ⟨[], 0, 0, List.replicate 36 false⟩ :: L) :=
  h.more ((Below.refl _ W).alloc (Nat.le_refl _) _) _ (refFoot W.heap.size (.slice none 0 0)) ⟨.slice none 0 0, ⟨heap_alloc_new W _, World.ownsRow_nil _ _ _ _, by simp [Value.ownBlock], by simp⟩, fun _ => Iff.rfl⟩ (fun k hk => by
    rcases hk with rfl | e
    · exact Nat.le_refl _
    · simp [Value.ownBlock] at e)
end Go.Proofs.Ytjopbglimjhefaa
