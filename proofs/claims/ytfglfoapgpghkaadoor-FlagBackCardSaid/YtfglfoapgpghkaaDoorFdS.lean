/- The document's Parse: walked. -/
import Derived.Test.YtfglfoapgpghkaaDoorFdR
namespace Go.Proofs.YtfglfoapgpghkaaDoor
open Go.RowKit

theorem spl_snoc_ne (c b : UInt8) (hb : b ≠ c) : ∀ (l : List UInt8) (out : List (List UInt8)) (x : List UInt8), spl c l = out ++ [x] → spl c (l ++ [b]) = out ++ [x ++ [b]]
  | [], out, x, h => by
    have h' : [[]] = out ++ [x] := h
    have hl := congrArg List.length h'
    simp at hl
    subst hl
    simp at h'
    subst h'
    simp [spl, hb]
  | y :: l, out, x, h => by
    by_cases hy : y = c
    · rw [spl, if_pos hy] at h
      rw [List.cons_append, spl, if_pos hy]
      cases out with
      | nil =>
        simp at h
        exact absurd h.2 (spl_ne c l)
      | cons o r =>
        simp only [List.cons_append, List.cons.injEq] at h ⊢
        exact ⟨h.1, spl_snoc_ne c b hb l r x h.2⟩
    · obtain ⟨z, r, e1, e2⟩ := spl_skip c y l hy
      rw [e2] at h
      obtain ⟨z2, r2, e3, e4⟩ := spl_skip c y (l ++ [b]) hy
      rw [List.cons_append, e4]
      cases out with
      | nil =>
        simp only [List.nil_append, List.cons.injEq] at h
        have h5 := spl_snoc_ne c b hb l [] z (by rw [e1, h.2]; rfl)
        rw [e3] at h5
        simp only [List.nil_append, List.cons.injEq] at h5 ⊢
        exact ⟨by rw [h5.1, ← h.1]; rfl, h5.2⟩
      | cons o q =>
        simp only [List.cons_append, List.cons.injEq] at h ⊢
        have h5 := spl_snoc_ne c b hb l (z :: q) x (by rw [e1, h.2]; rfl)
        rw [e3] at h5
        simp only [List.cons_append, List.cons.injEq] at h5
        exact ⟨by rw [h5.1]; exact h.1, h5.2⟩
theorem spl_snoc_eq (c : UInt8) : ∀ l : List UInt8, spl c (l ++ [c]) = spl c l ++ [[]]
  | [] => by simp [spl]
  | y :: l => by
    by_cases hy : y = c
    · rw [List.cons_append, spl, if_pos hy, spl, if_pos hy, spl_snoc_eq c l]; rfl
    · obtain ⟨z, r, e1, e2⟩ := spl_skip c y l hy
      obtain ⟨z2, r2, e3, e4⟩ := spl_skip c y (l ++ [c]) hy
      rw [List.cons_append, e4, e2]
      rw [spl_snoc_eq c l, e1] at e3
      simp only [List.cons_append, List.cons.injEq] at e3
      obtain ⟨rfl, rfl⟩ := e3
      rfl
theorem idx_none (c : UInt8) : ∀ l : List UInt8, c ∉ l → Lib.indexByte l c = -1
  | [], _ => rfl
  | b :: l, h => by
    rw [Lib.indexByte, if_neg (by simpa using fun e : b = c => h (by simp [e])), idx_none c l (fun hm => h (List.mem_cons_of_mem _ hm))]; rfl
theorem idx_at (c : UInt8) : ∀ (l : List UInt8) (k : Nat) (h : k < l.length), c ∉ l.take k → l[k] = c → Lib.indexByte l c = k
  | [], k, h, _, _ => by simp at h
  | b :: l, 0, h, _, he => by
    have : b = c := he
    rw [Lib.indexByte, if_pos (by simpa using this)]; rfl
  | b :: l, k + 1, h, hn, he => by
    rw [List.take_succ_cons] at hn
    have h1 := idx_at c l k (by simpa using h) (fun hm => hn (List.mem_cons_of_mem _ hm)) (by simpa using he)
    rw [Lib.indexByte, if_neg (by simpa using fun e : b = c => hn (by simp [e])), h1, if_neg (by simp)]
    rfl
theorem take_not {l : List UInt8} {c : UInt8} {k : Nat} (h : k < l.length) (hn : c ∉ l.take k) (hc : l[k] ≠ c) : c ∉ l.take (k + 1) := by
  rw [List.take_succ_eq_append_getElem h, List.mem_append]
  rintro (h1 | h1)
  · exact hn h1
  · simp at h1; exact hc h1.symm
theorem body_snoc {l : List UInt8} {k : Nat} (h : k < l.length) (j : Nat) (hj : j ≤ k) : (l.take (k + 1)).drop j = (l.take k).drop j ++ [l[k]] := by
  rw [List.take_succ_eq_append_getElem h, List.drop_append_of_le_length (by rw [List.length_take]; omega)]
theorem at_closed {l : List UInt8} {k : Nat} (h : k < l.length) (h1 : 1 ≤ k) (hd : l.headD 0 = 40) (hn : (41 : UInt8) ∉ l.take k) (hc : l[k] = 41) : parseAt l = some k := by
  rw [parseAt, idx_at 41 l k h hn hc, if_neg (by omega), if_pos hd]; rfl
theorem at_open {l : List UInt8} (hn : (41 : UInt8) ∉ l) : parseAt l = none := by
  rw [parseAt, idx_none 41 l hn, if_pos (by decide)]
theorem code_empty (out : List (List UInt8)) : makeCode (out ++ [[]]) = 4 := by
  have : canonAll (out ++ [[]]) = none := by
    rw [canonAll_append]
    have e : canonAll [[]] = none := by
      have e2 : canonL [] = none := by kernel_rfl
      rw [canonAll, e2]
    rw [e]; cases canonAll out <;> rfl
  rw [makeCode, this]
/-- at the head of the document's loop: either a name is to come, or the bracket stands there -/
def Opens (l : List UInt8) (a : Nat) (out : List (List UInt8)) : Prop := (41 : UInt8) ∉ l.take a ∧ spl 32 ((l.take a).drop 1) = out ++ [[]] ∧ (a = 1 ∨ l.getD a 0 ≠ 41)
def Shuts (l : List UInt8) (a : Nat) (out : List (List UInt8)) : Prop := (41 : UInt8) ∉ l.take a ∧ l.getD a 0 = 41 ∧ out = nameL l a
theorem Opens.start {l : List UInt8} (h : 1 < l.length) (hd : l.headD 0 = 40) : Opens l 1 [] := by
  refine ⟨?_, ?_, .inl rfl⟩
  · cases l with
    | nil => simp at h
    | cons x r => simp at hd; subst hd; simp
  · cases l with
    | nil => simp at h
    | cons x r => simp [spl]
theorem Opens.shut {l : List UInt8} {a : Nat} {out : List (List UInt8)} (h : Opens l a out) (hc : l.getD a 0 = 41) : Shuts l a out := by
  refine ⟨h.1, hc, ?_⟩
  rcases h.2.2 with rfl | h3
  · have h2 := h.2.1
    have e : (l.take 1).drop 1 = [] := by rw [List.drop_eq_nil_iff, List.length_take]; omega
    rw [e] at h2
    have h3 : [[]] = out ++ [[]] := h2
    have hl := congrArg List.length h3
    simp at hl
    subst hl
    rw [nameL, if_pos rfl]
  · exact absurd hc h3
/-- within a name that began at f -/
def Within (l : List UInt8) (f k : Nat) (out : List (List UInt8)) : Prop := (41 : UInt8) ∉ l.take k ∧ spl 32 ((l.take k).drop 1) = out ++ [(l.take k).drop f]
theorem Opens.within {l : List UInt8} {a : Nat} {out : List (List UInt8)} (h : Opens l a out) : Within l a a out := by
  refine ⟨h.1, ?_⟩
  have e : (l.take a).drop a = [] := by rw [List.drop_eq_nil_iff, List.length_take]; omega
  rw [e]; exact h.2.1
theorem Within.on {l : List UInt8} {f k : Nat} {out : List (List UInt8)} (h : Within l f k out) (hk : k < l.length) (hf : f ≤ k) (h1 : 1 ≤ k) (hc : l[k] ≠ 41) (hs : l[k] ≠ 32) : Within l f (k + 1) out := by
  refine ⟨take_not hk h.1 hc, ?_⟩
  rw [body_snoc hk 1 h1, body_snoc hk f hf]
  exact spl_snoc_ne 32 _ hs _ _ _ h.2
theorem Within.space {l : List UInt8} {f k : Nat} {out : List (List UInt8)} (h : Within l f k out) (hk : k < l.length) (h1 : 1 ≤ k) (hs : l[k] = 32) : (41 : UInt8) ∉ l.take (k + 1) ∧ spl 32 ((l.take (k + 1)).drop 1) = (out ++ [(l.take k).drop f]) ++ [[]] := by
  refine ⟨take_not hk h.1 (by rw [hs]; decide), ?_⟩
  rw [body_snoc hk 1 h1, hs, spl_snoc_eq, h.2]
theorem Within.shut {l : List UInt8} {f k : Nat} {out : List (List UInt8)} (h : Within l f k out) (h1 : 1 < k) (hc : l.getD k 0 = 41) : Shuts l k (out ++ [(l.take k).drop f]) :=
  ⟨h.1, hc, by rw [nameL, if_neg (by omega), h.2]⟩
theorem getD_at (s : ByteArray) (k : Nat) (h : k < s.size) : s.data.toList.getD k 0 = s[k] := by
  have h' : k < s.data.toList.length := h
  rw [List.getD_eq_getElem?_getD, List.getElem?_eq_getElem h']
  rfl
theorem piece_at (s : ByteArray) (f k : Nat) : (s.extract f k).data.toList = (s.data.toList.take k).drop f := by
  rw [Lib.extract_data, List.drop_take]
theorem byte_eq {b : UInt8} {n : Nat} (hn : n < 256) (h : b = UInt8.ofNat n) : (b.toNat : Int) = n := by
  subst h
  simp [Nat.mod_eq_of_lt hn]
theorem byte_ne {b : UInt8} {n : Nat} (hn : n < 256) (h : b ≠ UInt8.ofNat n) : ((b.toNat : Int) != n) = true := by
  rw [bne_iff_ne]
  intro e
  refine h (UInt8.toNat_inj.1 ?_)
  simp [Nat.mod_eq_of_lt hn]; omega
theorem byte_ne' {b : UInt8} {n : Nat} (hn : n < 256) (h : b ≠ UInt8.ofNat n) : ((b.toNat : Int) == n) = false := by
  have := byte_ne hn h
  simpa using this
set_option maxRecDepth 100000 in
set_option maxHeartbeats 8000000 in
theorem refParse_any (s : ByteArray) (hs : s.size ≤ 1048576) (w : World) :
    Calls Tryd.prog 6 #[.string s] w (ParseRet s.data.toList w) := by
  have hlen : s.data.toList.length = s.size := rfl
  have hlen0 := Lib.hid hlen
  have hget := Lib.hid (getD_at s)
  by_cases h2 : s.size < 2
  · have hn : Hid (parseAt s.data.toList = none) := Lib.hid (by
      rw [parseAt]
      by_cases hi : Lib.indexByte s.data.toList 41 < 1
      · rw [if_pos hi]
      · have h3 := (spl_cut 41 s.data.toList (Lib.indexByte s.data.toList 41).toNat (by omega)).2.2
        omega)
    clear hlen
    go_enter Tryd.func6, Tryd.ntmps6
    go_wp2_with fail
    go_ret3
    exact parse_none hn.out (Below.refl _ _)
  · have hs0 : 0 < s.size := by omega
    have hhd := headD_at s hs0
    by_cases hc : s[0] = 40
    · have hd : Hid (s.data.toList.headD 0 = 40) := Lib.hid (by rw [hhd, hc])
      have hc1 : ((s[0].toNat : Int)) = 40 := by rw [hc]; rfl
      have hst := Lib.hid (Opens.start (show 1 < s.data.toList.length by omega) hd.out)
      clear hhd hlen
      replace hc := Lib.hid hc
      go_enter Tryd.func6, Tryd.ntmps6
      go_wp2_with fail
      go_loopw [5, 6] (fun vo vk wr => ∃ (k : Nat) (out : List (List UInt8)), vk = .int .i64 k ∧ 1 ≤ k ∧ k < s.size ∧ out.length ≤ k ∧ Hid (Opens s.data.toList k out ∨ Shuts s.data.toList k out) ∧ Hid (OwnT wr w.heap.size vo out) ∧ Hid (Below w.heap.size w wr)) (fun _ vk _ => s.size - (intOf vk).toNat)
      case atStart => exact ⟨1, [], rfl, Nat.le_refl _, by omega, Nat.zero_le _, Lib.hid (.inl hst.out), Lib.hid (OwnT.nil _ _), Lib.hid (Below.refl _ _)⟩
      case round =>
        obtain ⟨k, out, rfl, hk1, hkn, hol, hinv, hown, hb⟩ := hrel
        clear hst
        have hk0 : 0 ≤ k := Nat.zero_le _
        by_cases h41 : s[k] = 41
        · have h41i : ((s[k].toNat : Int)) = 41 := byte_eq (by decide) h41
          have hsh : Hid (Shuts s.data.toList k out) := Lib.hid (by
            rcases hinv.out with h | h
            · exact h.shut (by rw [hget.out k hkn, h41])
            · exact h)
          have hat : Hid (parseAt s.data.toList = some k) := Lib.hid (at_closed (by rw [hlen0.out]; exact hkn) hk1 hd.out hsh.out.1 h41)
          have hnm : Hid (nameL s.data.toList k = out) := Lib.hid hsh.out.2.2.symm
          have hszd : Hid (Sized out) := Lib.hid (by rw [← hnm.out]; exact (sized_names _ _ hs).1)
          replace h41 := Lib.hid h41
          clear hsh hinv
          go_wp2_with fail
          refine (refMake_any u5 out wr hown.out.rd (by omega) hszd.out).mono ?_
          rintro e w3 ⟨v3, rfl, hr3, b3⟩
          have b3' := Lib.hid (hb.out.trans (b3.out.mono hb.out.size))
          by_cases hcode : makeCode out = 0
          · have hend := fun (W : World) (hr : Rd W v3 (makeSet out).length ((makeSet out).map encStr)) (hb : Below w.heap.size w W) => parse_ok (v := v3) hat.out (by rw [hnm.out]; exact hcode) (by rw [hnm.out]; exact hr) hb
            replace hend := Lib.hid hend
            rw [hcode]
            clear hcode hat
            go_wp2_with fail
            go_ret3
            exact hend.out _ hr3.out b3'.out
          · have hend := fun (W : World) (hb : Below w.heap.size w W) => parse_bad hat.out (by rw [hnm.out]; exact hcode) hb
            rw [hnm.out] at hend
            replace hend := Lib.hid hend
            have hne : ((makeCode out : Int) != 0) = true := by rw [bne_iff_ne]; omega
            generalize makeCode out = C at hne hend hcode
            clear hcode hat
            go_wp2_with fail
            go_ret3
            exact hend.out _ b3'.out
        · have h41n : ((s[k].toNat : Int) != 41) = true := byte_ne (by decide) h41
          have hop : Hid (Opens s.data.toList k out) := Lib.hid (by
            rcases hinv.out with h | h
            · exact h
            · exact absurd (by rw [← hget.out k hkn]; exact h.2.1) h41)
          clear hinv
          replace h41 := Lib.hid h41
          go_wp2_with fail
          go_loopw [6] (fun vk wr2 => ∃ (j : Nat), vk = .int .i64 j ∧ k ≤ j ∧ j ≤ s.size ∧ Hid (Within s.data.toList k j out) ∧ wr2 = wr) (fun vk _ => s.size - (intOf vk).toNat)
          case atStart => exact ⟨k, rfl, Nat.le_refl _, by omega, Lib.hid hop.out.within, rfl⟩
          case round =>
            obtain ⟨j, rfl, hkj, hjn, hw, rfl⟩ := hrel
            have hszw := hb.out.size
            clear hop
            by_cases hjs : j < s.size
            · by_cases j41 : s[j] = 41
              · have j41i : ((s[j].toNat : Int)) = 41 := byte_eq (by decide) j41
                have hkj2 : k < j := by
                  rcases Nat.lt_or_ge k j with h | h
                  · exact h
                  · obtain rfl : k = j := by omega
                    exact absurd j41 h41.out
                have hsh := Lib.hid (hw.out.shut (show 1 < j by omega) (by rw [hget.out j hjs, j41]))
                replace j41 := Lib.hid j41
                clear hw
                go_wp2_with (at_builtin; refine wpList_append_text rfl (.tmp 41) (.tmp 46) rfl w.heap.size u5 out wr.heap.size (s.extract k j) rfl rfl (hown.out.below (Lays.alloc _ _).below) (by simp) (by simp) (by omega) (by simp; omega) ?_)
                intro v4 w4 ho4 hg4 hv4
                have hb4 := Lib.hid ((hb.out.alloc hb.out.size _).grown hg4 (by simp; omega) (fun k hk => (hown.out.lt k hk).1))
                rw [← List.drop_take] at ho4
                have hl4 : (out ++ [(s.data.toList.take j).drop k]).length ≤ k + 1 := by simp; omega
                obtain ⟨OUT, hO⟩ : ∃ OUT, Hid (out ++ [(s.data.toList.take j).drop k] = OUT) := ⟨_, Lib.hid rfl⟩
                rw [hO.out] at ho4 hl4
                replace ho4 := Lib.hid ho4
                clear hg4 hv4
                rw [hO.out] at hsh
                go_wp2_with fail
                go_roundw
                case rel => exact ⟨j, OUT, rfl, by omega, hjs, by omega, Lib.hid (.inr hsh.out), ho4, hb4⟩
                case measure => simp [intOf]; omega
              · have j41n : ((s[j].toNat : Int) != 41) = true := byte_ne (by decide) j41
                by_cases j32 : s[j] = 32
                · have j32i : ((s[j].toNat : Int)) = 32 := byte_eq (by decide) j32
                  have hsp := Lib.hid (hw.out.space (show j < s.data.toList.length from hjs) (by omega) j32)
                  replace j32 := Lib.hid j32
                  replace j41 := Lib.hid j41
                  clear hw
                  by_cases hj1 : j + 1 < s.size
                  · by_cases n41 : s[j + 1] = 41
                    · have n41i : ((s[j + 1].toNat : Int)) = 41 := byte_eq (by decide) n41
                      have hat : Hid (parseAt s.data.toList = some (j + 1)) := Lib.hid (at_closed (show j + 1 < s.data.toList.length from hj1) (by omega) hd.out hsp.out.1 n41)
                      have hcd : Hid (makeCode (nameL s.data.toList (j + 1)) = 4) := Lib.hid (by rw [nameL, if_neg (by omega), hsp.out.2]; exact code_empty _)
                      have hend := Lib.hid (fun (W : World) (hb : Below w.heap.size w W) => parse_bad hat.out (by rw [hcd.out]; decide) hb)
                      rw [hcd.out] at hend
                      replace n41 := Lib.hid n41
                      clear hsp hat hcd
                      go_wp2_with (at_builtin; refine wpList_append_text rfl (.tmp 41) (.tmp 46) rfl w.heap.size u5 out wr.heap.size (s.extract k j) rfl rfl (hown.out.below (Lays.alloc _ _).below) (by simp) (by simp) (by omega) (by simp; omega) ?_)
                      intro v4 w4 ho4 hg4 hv4
                      have hb4 := Lib.hid ((hb.out.alloc hb.out.size _).grown hg4 (by simp; omega) (fun k hk => (hown.out.lt k hk).1))
                      rw [← List.drop_take] at ho4
                      have hl4 : (out ++ [(s.data.toList.take j).drop k]).length ≤ k + 1 := by simp; omega
                      obtain ⟨OUT, hO⟩ : ∃ OUT, Hid (out ++ [(s.data.toList.take j).drop k] = OUT) := ⟨_, Lib.hid rfl⟩
                      rw [hO.out] at ho4 hl4
                      replace ho4 := Lib.hid ho4
                      clear hg4 hv4
                      go_wp2_with fail
                      go_ret3
                      exact hend.out _ hb4.out
                    · have n41n : ((s[j + 1].toNat : Int) == 41) = false := byte_ne' (by decide) n41
                      have hopn : Hid (Opens s.data.toList (j + 1) (out ++ [(s.data.toList.take j).drop k])) := Lib.hid ⟨hsp.out.1, hsp.out.2, .inr (by rw [hget.out (j + 1) hj1]; exact n41)⟩
                      replace n41 := Lib.hid n41
                      clear hsp
                      go_wp2_with (at_builtin; refine wpList_append_text rfl (.tmp 41) (.tmp 46) rfl w.heap.size u5 out wr.heap.size (s.extract k j) rfl rfl (hown.out.below (Lays.alloc _ _).below) (by simp) (by simp) (by omega) (by simp; omega) ?_)
                      intro v4 w4 ho4 hg4 hv4
                      have hb4 := Lib.hid ((hb.out.alloc hb.out.size _).grown hg4 (by simp; omega) (fun k hk => (hown.out.lt k hk).1))
                      rw [← List.drop_take] at ho4
                      have hl4 : (out ++ [(s.data.toList.take j).drop k]).length ≤ k + 1 := by simp; omega
                      obtain ⟨OUT, hO⟩ : ∃ OUT, Hid (out ++ [(s.data.toList.take j).drop k] = OUT) := ⟨_, Lib.hid rfl⟩
                      rw [hO.out] at ho4 hl4
                      replace ho4 := Lib.hid ho4
                      clear hg4 hv4
                      rw [hO.out] at hopn
                      go_wp2_with fail
                      go_roundw
                      case rel => exact ⟨j + 1, OUT, by go_num, by omega, hj1, by omega, Lib.hid (.inl hopn.out), ho4, hb4⟩
                      case measure => simp [intOf]; omega
                  · have hno : Hid (parseAt s.data.toList = none) := Lib.hid (by
                      have h := hsp.out.1
                      rw [List.take_of_length_le (by rw [hlen0.out]; omega)] at h
                      exact at_open h)
                    clear hsp
                    go_wp2_with (at_builtin; refine wpList_append_text rfl (.tmp 41) (.tmp 46) rfl w.heap.size u5 out wr.heap.size (s.extract k j) rfl rfl (hown.out.below (Lays.alloc _ _).below) (by simp) (by simp) (by omega) (by simp; omega) ?_)
                    intro v4 w4 ho4 hg4 hv4
                    have hb4 := Lib.hid ((hb.out.alloc hb.out.size _).grown hg4 (by simp; omega) (fun k hk => (hown.out.lt k hk).1))
                    rw [← List.drop_take] at ho4
                    have hl4 : (out ++ [(s.data.toList.take j).drop k]).length ≤ k + 1 := by simp; omega
                    obtain ⟨OUT, hO⟩ : ∃ OUT, Hid (out ++ [(s.data.toList.take j).drop k] = OUT) := ⟨_, Lib.hid rfl⟩
                    rw [hO.out] at ho4 hl4
                    replace ho4 := Lib.hid ho4
                    clear hg4 hv4
                    go_wp2_with fail
                    go_ret3
                    exact parse_none hno.out hb4.out
                · have j32n : ((s[j].toNat : Int) != 32) = true := byte_ne (by decide) j32
                  have hwn := Lib.hid (hw.out.on (show j < s.data.toList.length from hjs) hkj (by omega) j41 j32)
                  replace j32 := Lib.hid j32
                  replace j41 := Lib.hid j41
                  clear hw
                  go_wp2_with fail
                  go_roundw
                  case rel => exact ⟨j + 1, by go_num, by omega, by omega, hwn, trivial⟩
                  case measure => simp [intOf]; omega
            · obtain rfl : j = s.size := by omega
              have hno : Hid (parseAt s.data.toList = none) := Lib.hid (by
                have h := hw.out.1
                rw [List.take_of_length_le (by rw [hlen0.out]; omega)] at h
                exact at_open h)
              clear hw
              go_wp2_with (at_builtin; refine wpList_append_text rfl (.tmp 41) (.tmp 46) rfl w.heap.size u5 out wr.heap.size (s.extract k s.size) rfl rfl (hown.out.below (Lays.alloc _ _).below) (by simp) (by simp) (by omega) (by simp; omega) ?_)
              intro v4 w4 ho4 hg4 hv4
              have hb4 := Lib.hid ((hb.out.alloc hb.out.size _).grown hg4 (by simp; omega) (fun k hk => (hown.out.lt k hk).1))
              rw [← List.drop_take] at ho4
              have hl4 : (out ++ [(s.data.toList.take s.size).drop k]).length ≤ k + 1 := by simp; omega
              obtain ⟨OUT, hO⟩ : ∃ OUT, Hid (out ++ [(s.data.toList.take s.size).drop k] = OUT) := ⟨_, Lib.hid rfl⟩
              rw [hO.out] at ho4 hl4
              replace ho4 := Lib.hid ho4
              clear hg4 hv4
              go_wp2_with fail
              go_ret3
              exact parse_none hno.out hb4.out
    · have hn : Hid (parseAt s.data.toList = none) := Lib.hid (by
        rw [parseAt, hhd, if_neg hc]; split <;> rfl)
      have hc1 : ((s[0].toNat : Int) != 40) = true := byte_ne (by decide) hc
      clear hhd hlen
      replace hc := Lib.hid hc
      go_enter Tryd.func6, Tryd.ntmps6
      go_wp2_with fail
      go_ret3
      exact parse_none hn.out (Below.refl _ _)
end Go.Proofs.YtfglfoapgpghkaaDoor
