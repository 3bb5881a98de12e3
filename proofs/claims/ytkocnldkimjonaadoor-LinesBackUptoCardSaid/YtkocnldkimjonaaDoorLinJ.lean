/- Several feeders in memory, none in another's way; and the walk of LinesTwins: of two feeders what is fed to one isn't fed to the other. -/
import Derived.Test.YtkocnldkimjonaaDoorLinH
import Derived.Test.YtkocnldkimjonaaDoorLinI
namespace Go.Proofs.YtkocnldkimjonaaDoor
open Go.RowKit

theorem FeedAt.base {B B' : Nat} {w : World} {b c : Nat} {a : Option Addr} {st : FS} (h : FeedAt B w b a c st) (hB : B' ≤ B) : FeedAt B' w b a c st := by
  refine ⟨Nat.le_trans hB h.low, h.cells, ?_, h.apart⟩
  rcases h.own with ⟨q1, q2 | ⟨g2, cap, cur, hv, hb, r⟩⟩
  · exact ⟨q1, .inl q2⟩
  · exact ⟨q1, .inr ⟨g2, cap, cur, hv, Nat.le_trans hB hb, r⟩⟩
theorem FeedAt.drewN {B : Nat} {w : World} {b c : Nat} {a : Option Addr} {st : FS} (h : FeedAt B w b a c st) (n : Nat) : FeedAt B (w.drewN n) b a c st := ⟨h.low, h.cells, h.own.of_block (fun _ _ => rfl), h.apart⟩
/-- feeders (where, how each stands) and things heard of them (the slice, what it holds) -/
structure Zoo (B : Nat) (w : World) (A : Nat → Option Addr) (L : List (Nat × FS)) (O : List (Value × List (Nat × List UInt8))) : Prop where
  feed : ∀ i x, L[i]? = some x → ∃ c, FeedAt B w x.1 (A i) c x.2
  apart : ∀ i j x y, i ≠ j → L[i]? = some x → L[j]? = some y → x.1 ≠ y.1 ∧ (∀ d, A i = some d → d.block ≠ y.1) ∧ (∀ d d2, A i = some d → A j = some d2 → d.block ≠ d2.block)
  outs : ∀ z ∈ O, OwnHeards w B z.1 z.2 ∧ ∀ i x, L[i]? = some x → z.1.ownBlock ≠ some x.1 ∧ ∀ d, A i = some d → z.1.ownBlock ≠ some d.block
def ZooAt (B : Nat) (w : World) (L : List (Nat × FS)) (O : List (Value × List (Nat × List UInt8))) : Prop := ∃ A, Zoo B w A L O
theorem ZooAt.nil (B : Nat) (w : World) : ZooAt B w [] [] := ⟨fun _ => none, by simp, by simp, by simp⟩
theorem ZooAt.heap {B : Nat} {w w' : World} {L : List (Nat × FS)} {O : List (Value × List (Nat × List UInt8))} (h : ZooAt B w L O) (hh : w'.heap = w.heap) : ZooAt B w' L O := by
  obtain ⟨A, h⟩ := h
  refine ⟨A, fun i x hx => ?_, h.apart, fun z hz => ⟨(h.outs z hz).1.of_block (fun _ _ => by rw [hh]), (h.outs z hz).2⟩⟩
  obtain ⟨c, hf⟩ := h.feed i x hx
  exact ⟨c, hf.low, by rw [hh]; exact hf.cells, hf.own.of_block (fun _ _ => by rw [hh]), hf.apart⟩
theorem ZooAt.drewN {B : Nat} {w : World} {L : List (Nat × FS)} {O : List (Value × List (Nat × List UInt8))} (h : ZooAt B w L O) (n : Nat) : ZooAt B (w.drewN n) L O := h.heap rfl
theorem ZooAt.get {B : Nat} {w : World} {L : List (Nat × FS)} {O : List (Value × List (Nat × List UInt8))} (h : ZooAt B w L O) (i : Nat) (b : Nat) (st : FS) (hi : L[i]? = some (b, st)) : ∃ a c, FeedAt B w b a c st := by
  obtain ⟨A, h⟩ := h
  obtain ⟨c, hf⟩ := h.feed i _ hi
  exact ⟨_, c, hf⟩
theorem ZooAt.out {B : Nat} {w : World} {L : List (Nat × FS)} {O : List (Value × List (Nat × List UInt8))} (h : ZooAt B w L O) (v : Value) (hs : List (Nat × List UInt8)) (hm : (v, hs) ∈ O) : OwnHeards w B v hs := by
  obtain ⟨A, h⟩ := h
  exact (h.outs _ hm).1
theorem ZooAt.below {B : Nat} {w w' : World} {L : List (Nat × FS)} {O : List (Value × List (Nat × List UInt8))} (h : ZooAt B w L O) (hb : Below w.heap.size w w') : ZooAt B w' L O := by
  obtain ⟨A, h⟩ := h
  refine ⟨A, fun i x hx => ?_, h.apart, fun z hz => ⟨(h.outs z hz).1.of_block (fun k hk => hb.block k (World.ownsRow.lt (h.outs z hz).1 k hk).2), (h.outs z hz).2⟩⟩
  obtain ⟨c, hf⟩ := h.feed i x hx
  exact ⟨c, hf.later hb⟩
/-- a feeder more, in memory that is new -/
theorem ZooAt.more {B : Nat} {w w' : World} {L : List (Nat × FS)} {O : List (Value × List (Nat × List UInt8))} {b c : Nat} {a : Option Addr} {st : FS} (h : ZooAt B w L O) (hb : Below w.heap.size w w') (hf : FeedAt B w' b a c st) (h1 : w.heap.size ≤ b) (h2 : ∀ d, a = some d → w.heap.size ≤ d.block) : ZooAt B w' (L ++ [(b, st)]) O := by
  obtain ⟨A, h⟩ := h
  have hold : ∀ i x, L[i]? = some x → x.1 < w.heap.size ∧ ∀ d, A i = some d → d.block < w.heap.size := fun i x hx => by
    obtain ⟨c, hf⟩ := h.feed i x hx
    exact ⟨hf.lt, fun d hd => (hf.text_lt d hd).2⟩
  have hcase : ∀ i x, (L ++ [(b, st)])[i]? = some x → (i < L.length ∧ L[i]? = some x) ∨ (i = L.length ∧ x = (b, st)) := fun i x hx => by
    rcases Nat.lt_or_ge i L.length with hi | hi
    · rw [List.getElem?_append_left hi] at hx; exact .inl ⟨hi, hx⟩
    · rw [List.getElem?_append_right hi] at hx
      have : i - L.length = 0 := by
        rcases Nat.eq_zero_or_pos (i - L.length) with h | h
        · exact h
        · rw [List.getElem?_eq_none (by simp; omega)] at hx; cases hx
      rw [this] at hx
      simp at hx
      exact .inr ⟨by omega, hx.symm⟩
  refine ⟨fun i => if i < L.length then A i else a, fun i x hx => ?_, fun i j x y hij hx hy => ?_, fun z hz => ?_⟩
  · rcases hcase i x hx with ⟨hi, hx⟩ | ⟨hi, rfl⟩
    · obtain ⟨c, hf⟩ := h.feed i x hx
      exact ⟨c, by rw [if_pos hi]; exact hf.later hb⟩
    · exact ⟨c, by rw [if_neg (by omega)]; exact hf⟩
  · rcases hcase i x hx with ⟨hi, hx⟩ | ⟨hi, rfl⟩
    · rcases hcase j y hy with ⟨hj, hy⟩ | ⟨hj, rfl⟩
      · simp only [if_pos hi, if_pos hj]; exact h.apart i j x y hij hx hy
      · have q := hold i x hx
        simp only [if_pos hi, if_neg (show ¬ j < L.length by omega)]
        exact ⟨by show x.1 ≠ b; omega, fun d hd => by have := q.2 d hd; show d.block ≠ b; omega, fun d d2 hd hd2 => by have := q.2 d hd; have := h2 d2 hd2; omega⟩
    · rcases hcase j y hy with ⟨hj, hy⟩ | ⟨hj, rfl⟩
      · have q := hold j y hy
        simp only [if_pos hj, if_neg (show ¬ i < L.length by omega)]
        exact ⟨by show b ≠ y.1; omega, fun d hd => by have := h2 d hd; omega, fun d d2 hd hd2 => by have := q.2 d2 hd2; have := h2 d hd; omega⟩
      · omega
  · have hz' := h.outs z hz
    have hlt := World.ownsRow.lt hz'.1
    refine ⟨hz'.1.of_block (fun k hk => hb.block k (hlt k hk).2), fun i x hx => ?_⟩
    rcases hcase i x hx with ⟨hi, hx⟩ | ⟨hi, rfl⟩
    · simp only [if_pos hi]; exact hz'.2 i x hx
    · simp only [if_neg (show ¬ i < L.length by omega)]
      exact ⟨fun e => by have := (hlt _ e).2; omega, fun d hd e => by have := (hlt _ e).2; have := h2 d hd; omega⟩
/-- one of them is fed -/
theorem ZooAt.fed {B : Nat} {w : World} {L : List (Nat × FS)} {O : List (Value × List (Nat × List UInt8))} (h : ZooAt B w L O) (i : Nat) (b : Nat) (st : FS) (hi : L[i]? = some (b, st)) :
    ∃ a c, FeedAt B w b a c st ∧ ∀ (v : Value) (w' : World) (st' : FS) (hs : List (Nat × List UInt8)), Run B w b a v w' st' hs → ZooAt B w' (L.set i (b, st')) ((v, hs) :: O) := by
  obtain ⟨A, h⟩ := h
  obtain ⟨c, hf⟩ := h.feed i _ hi
  refine ⟨A i, c, hf, fun v w' st' hs hr => ?_⟩
  obtain ⟨a', c', hf', hn', hp'⟩ := hr.at_
  have hil : i < L.length := (List.getElem?_eq_some_iff.1 hi).1
  have hvlow : ∀ k, v.ownBlock = some k → w.heap.size ≤ k := fun k hk => (World.ownsRow.lt hr.out k hk).1
  have hcase : ∀ j x, (L.set i (b, st'))[j]? = some x → (j = i ∧ x = (b, st')) ∨ (j ≠ i ∧ L[j]? = some x) := fun j x hx => by
    by_cases hj : j = i
    · subst hj
      rw [List.getElem?_set_self hil] at hx
      exact .inl ⟨rfl, (Option.some.inj hx).symm⟩
    · rw [List.getElem?_set_ne (Ne.symm hj)] at hx
      exact .inr ⟨hj, hx⟩
  have hlow : B ≤ w.heap.size := Nat.le_trans hf.low (Nat.le_of_lt hf.lt)
  have hoth : ∀ j x, j ≠ i → L[j]? = some x → x.1 ≠ b ∧ (∀ d, A j = some d → d.block ≠ b) ∧ (∀ d, a' = some d → d.block ≠ x.1) ∧ ∀ d d2, a' = some d → A j = some d2 → d.block ≠ d2.block := fun j x hj hx => by
    obtain ⟨cj, hfj⟩ := h.feed j x hx
    have q1 := h.apart j i x _ hj hx hi
    have q2 := h.apart i j _ x (Ne.symm hj) hi hx
    refine ⟨q1.1, q1.2.1, fun d hd => ?_, fun d d2 hd hd2 => ?_⟩
    · rcases hn' d hd with h1 | h1
      · exact q2.2.1 d h1
      · have := hfj.lt; omega
    · rcases hn' d hd with h1 | h1
      · exact q2.2.2 d d2 h1 hd2
      · have := (hfj.text_lt d2 hd2).2; omega
  refine ⟨fun j => if j = i then a' else A j, fun j x hx => ?_, fun j k x y hjk hx hy => ?_, fun z hz => ?_⟩
  · rcases hcase j x hx with ⟨rfl, rfl⟩ | ⟨hj, hx⟩
    · exact ⟨c', by rw [if_pos rfl]; exact hf'⟩
    · obtain ⟨cj, hfj⟩ := h.feed j x hx
      refine ⟨cj, ?_⟩
      rw [if_neg hj]
      have q1 := h.apart j i x _ hj hx hi
      have q2 := h.apart i j _ x (Ne.symm hj) hi hx
      exact hfj.of_kept hr.kept q1.1 q2.2.1 q1.2.1 q2.2.2
  · rcases hcase j x hx with ⟨rfl, rfl⟩ | ⟨hj, hx⟩
    · rcases hcase k y hy with ⟨rfl, rfl⟩ | ⟨hk, hy⟩
      · exact absurd rfl hjk
      · have q := hoth k y hk hy
        simp only [if_neg hk]
        exact ⟨Ne.symm q.1, q.2.2.1, q.2.2.2⟩
    · have q0 := hoth j x hj hx
      rcases hcase k y hy with ⟨rfl, rfl⟩ | ⟨hk, hy⟩
      · have q := q0
        simp only [if_neg hj]
        exact ⟨q.1, q.2.1, fun d d2 hd hd2 e => q.2.2.2 d2 d hd2 hd e.symm⟩
      · simp only [if_neg hj, if_neg hk]
        exact h.apart j k x y hjk hx hy
  · rcases List.mem_cons.1 hz with rfl | hz
    · have hvb : v.ownBlock ≠ some b := fun e => by have := hvlow _ e; have := hf.lt; omega
      refine ⟨hr.out.low hlow, fun j x hx => ?_⟩
      rcases hcase j x hx with ⟨rfl, rfl⟩ | ⟨hj, hx⟩
      · simp only
        exact ⟨hvb, fun d hd e => hp' d _ hd e rfl⟩
      · simp only [if_neg hj]
        obtain ⟨cj, hfj⟩ := h.feed j x hx
        exact ⟨fun e => by have := hvlow _ e; have := hfj.lt; omega, fun d hd e => by have := hvlow _ e; have := (hfj.text_lt d hd).2; omega⟩
    · have hz' := h.outs z hz
      have hlt := World.ownsRow.lt hz'.1
      refine ⟨hz'.1.keep hr (hz'.2 i _ hi).1 (hz'.2 i _ hi).2, fun j x hx => ?_⟩
      rcases hcase j x hx with ⟨rfl, rfl⟩ | ⟨hj, hx⟩
      · simp only
        refine ⟨(hz'.2 j _ hi).1, fun d hd e => ?_⟩
        rcases hn' d hd with h1 | h1
        · exact (hz'.2 j _ hi).2 d h1 e
        · have := (hlt _ e).2; omega
      · simp only [if_neg hj]
        exact hz'.2 j x hx
/-- Feed, Twin, New and the small ones, of several feeders -/
def ZooRet (W0 : World) (L : List (Nat × FS)) (O : List (Value × List (Nat × List UInt8))) (hs : List (Nat × List UInt8)) (e : Ending) (w' : World) : Prop := ∃ v, e = .returned v ∧ Hid (ZooAt W0.heap.size w' L ((v, hs) :: O)) ∧ Hid (Below W0.heap.size W0 w')
theorem zoo_feed (W0 w : World) (ht : Tab W0) (he : Errs W0) (h0 : Hid (Below W0.heap.size W0 w)) {L : List (Nat × FS)} {O : List (Value × List (Nat × List UInt8))} (h : Hid (ZooAt W0.heap.size w L O)) (i b : Nat) (st : FS) (hi : L[i]? = some (b, st)) (hg : Hid (Good st)) (s : ByteArray) (hs : s.size ≤ 1048576) :
    Calls Tryd.prog 10 #[.pointer (some ⟨b, 0, none⟩), .string s] w (ZooRet W0 (L.set i (b, fin (feedGo st s.data.toList).1)) O (feedGo st s.data.toList).2) := by
  obtain ⟨a, c, hf, hz⟩ := h.out.fed i b st hi
  refine (feed_any W0 w ht he h0.out b a c st hf hg.out s hs).mono ?_
  rintro e w' ⟨v, rfl, hr⟩
  exact ⟨v, rfl, Lib.hid (hz v w' _ _ hr), Lib.hid (hr.kept.ground h0.out hf.low (fun d hd => (hf.text_lt d hd).1))⟩
theorem zoo_new (W0 w : World) (h0 : Hid (Below W0.heap.size W0 w)) {L : List (Nat × FS)} {O : List (Value × List (Nat × List UInt8))} (h : Hid (ZooAt W0.heap.size w L O)) :
    Calls Tryd.prog 9 #[] w fun e w' => ∃ b, e = .returned (.pointer (some ⟨b, 0, none⟩)) ∧ Hid (ZooAt W0.heap.size w' (L ++ [(b, fs0)]) O) ∧ Hid (Below W0.heap.size W0 w') := by
  refine (new_any W0.heap.size w h0.out.size).mono ?_
  rintro e w' ⟨rfl, hf, hb, _⟩
  exact ⟨_, rfl, Lib.hid (h.out.more hb hf (Nat.le_refl _) (fun _ hd => by cases hd)), Lib.hid (h0.out.trans (hb.mono h0.out.size))⟩
theorem zoo_twin (W0 w : World) (h0 : Hid (Below W0.heap.size W0 w)) {L : List (Nat × FS)} {O : List (Value × List (Nat × List UInt8))} (h : Hid (ZooAt W0.heap.size w L O)) (i b : Nat) (st : FS) (hi : L[i]? = some (b, st)) (hg : Hid (Good st)) :
    Calls Tryd.prog 19 #[.pointer (some ⟨b, 0, none⟩)] w fun e w' => ∃ b', e = .returned (.pointer (some ⟨b', 0, none⟩)) ∧ Hid (ZooAt W0.heap.size w' (L ++ [(b', st)]) O) ∧ Hid (Below W0.heap.size W0 w') := by
  obtain ⟨a, c, hf⟩ := h.out.get i b st hi
  refine (twin_any _ w b c a st hf (by have := hg.out.len; omega)).mono ?_
  rintro e w' ⟨b', a', c', rfl, hb', hf', hb⟩
  exact ⟨b', rfl, Lib.hid (h.out.more hb (hf'.base h0.out.size) hb' (fun d hd => (hf'.text_lt d hd).1)), Lib.hid (h0.out.trans (hb.mono h0.out.size))⟩
theorem zoo_size {B : Nat} {w : World} {L : List (Nat × FS)} {O : List (Value × List (Nat × List UInt8))} (h : Hid (ZooAt B w L O)) (i b : Nat) (st : FS) (hi : L[i]? = some (b, st)) :
    Calls Tryd.prog 15 #[.pointer (some ⟨b, 0, none⟩)] w fun e w' => e = .returned (.int .i64 st.text.length) ∧ w = w' := by
  obtain ⟨a, c, hf⟩ := h.out.get i b st hi
  exact size_any _ _ _ _ _ _ hf
theorem zoo_waits {B : Nat} {w : World} {L : List (Nat × FS)} {O : List (Value × List (Nat × List UInt8))} (h : Hid (ZooAt B w L O)) (i b : Nat) (st : FS) (hi : L[i]? = some (b, st)) :
    Calls Tryd.prog 14 #[.pointer (some ⟨b, 0, none⟩)] w fun e w' => e = .returned (.int .i64 st.left) ∧ w = w' := by
  obtain ⟨a, c, hf⟩ := h.out.get i b st hi
  exact waits_any _ _ _ _ _ _ hf
theorem zoo_deaf {B : Nat} {w : World} {L : List (Nat × FS)} {O : List (Value × List (Nat × List UInt8))} (h : Hid (ZooAt B w L O)) (i b : Nat) (st : FS) (hi : L[i]? = some (b, st)) :
    Calls Tryd.prog 16 #[.pointer (some ⟨b, 0, none⟩)] w fun e w' => e = .returned (.bool st.deaf) ∧ w = w' := by
  obtain ⟨a, c, hf⟩ := h.out.get i b st hi
  exact deaf_any _ _ _ _ _ _ hf
theorem zoo_same {B : Nat} {W0 w : World} {L : List (Nat × FS)} {O : List (Value × List (Nat × List UInt8))} (h0 : Hid (Below W0.heap.size W0 w)) (h : Hid (ZooAt B w L O)) (v1 v2 : Value) (hs : List (Nat × List UInt8)) (h1 : (v1, hs) ∈ O) (h2 : (v2, hs) ∈ O) (hl : Hid (hs.length ≤ 4194304)) :
    Calls Tryd.prog 12 #[v1, v2] w fun e w' => e = .returned (.bool true) ∧ Hid (ZooAt B w' L O) ∧ Hid (Below W0.heap.size W0 w') := by
  refine (same_any _ _ w v1 v2 hs (h.out.out _ _ h1) (h.out.out _ _ h2) hl.out).mono ?_
  rintro e w' ⟨rfl, n, rfl⟩
  exact ⟨rfl, Lib.hid (h.out.drewN n), Lib.hid ⟨h0.out.os, h0.out.tape, h0.out.output, h0.out.size, h0.out.block⟩⟩
theorem feedGo_hlen (st : FS) (s : ByteArray) (hs : s.size ≤ 1048576) : Hid ((feedGo st s.data.toList).2.length ≤ 4194304) := by
  have := feedGo_len s.data.toList st
  rw [← size_len] at this
  exact Lib.hid (by omega)
set_option maxRecDepth 100000 in
set_option maxHeartbeats 2000000 in
theorem linesTwins_any (s a b : ByteArray) (hs : s.size ≤ 1048576) (ha : a.size ≤ 1048576) (hb : b.size ≤ 1048576) (w : World) (ht : Tab w) (he : Errs w) :
    Calls Tryd.prog 7 #[.string s, .string a, .string b] w fun e w' => e = .returned (.bool true) ∧ Below w.heap.size w w' := by
  obtain ⟨st, hst⟩ : ∃ st, Hid (fin (feedGo fs0 s.data.toList).1 = st) := ⟨_, Lib.hid rfl⟩
  obtain ⟨sa, hsa⟩ : ∃ x, Hid (fin (feedGo st a.data.toList).1 = x) := ⟨_, Lib.hid rfl⟩
  obtain ⟨sb, hsb⟩ : ∃ x, Hid (fin (feedGo st b.data.toList).1 = x) := ⟨_, Lib.hid rfl⟩
  have hgood : Hid (Good st) := Lib.hid (by rw [← hst.out]; exact (Good.go _ Good.new).fin)
  have g0 : Hid (Good fs0) := Lib.hid Good.new
  go_enter Tryd.func7, Tryd.ntmps7
  go_wp2_with fail
  refine (alive_any w ht he).mono ?_
  rintro e w1 ⟨rfl, b1⟩
  replace b1 := Lib.hid b1
  have z1 : Hid (ZooAt w.heap.size w1 [] []) := Lib.hid (ZooAt.nil _ _)
  go_wp2_with fail
  -- f
  refine (zoo_new w w1 b1 z1).mono ?_
  rintro e w2 ⟨f, rfl, z2, b2⟩
  replace z2 : Hid (ZooAt w.heap.size w2 [(f, fs0)] []) := z2
  clear b1 z1
  go_wp2_with fail
  refine (zoo_feed w w2 ht he b2 z2 0 f fs0 rfl g0 s hs).mono ?_
  rintro e w3 ⟨v3, rfl, z3, b3⟩
  rw [hst.out] at z3
  replace z3 : Hid (ZooAt w.heap.size w3 [(f, st)] [(v3, _)]) := z3
  clear b2 z2
  -- g
  go_wp2_with fail
  refine (zoo_twin w w3 b3 z3 0 f st rfl hgood).mono ?_
  rintro e w4 ⟨g, rfl, z4, b4⟩
  replace z4 : Hid (ZooAt w.heap.size w4 [(f, st), (g, st)] [(v3, _)]) := z4
  clear b3 z3
  -- x, y
  go_wp2_with fail
  refine (zoo_new w w4 b4 z4).mono ?_
  rintro e w5 ⟨x, rfl, z5, b5⟩
  replace z5 : Hid (ZooAt w.heap.size w5 [(f, st), (g, st), (x, fs0)] [(v3, _)]) := z5
  clear b4 z4
  go_wp2_with fail
  refine (zoo_new w w5 b5 z5).mono ?_
  rintro e w6 ⟨y, rfl, z6, b6⟩
  replace z6 : Hid (ZooAt w.heap.size w6 [(f, st), (g, st), (x, fs0), (y, fs0)] [(v3, _)]) := z6
  clear b5 z5
  go_wp2_with fail
  refine (zoo_feed w w6 ht he b6 z6 2 x fs0 rfl g0 s hs).mono ?_
  rintro e w7 ⟨v7, rfl, z7, b7⟩
  rw [hst.out] at z7
  replace z7 : Hid (ZooAt w.heap.size w7 [(f, st), (g, st), (x, st), (y, fs0)] [(v7, _), (v3, _)]) := z7
  clear b6 z6
  go_wp2_with fail
  refine (zoo_feed w w7 ht he b7 z7 3 y fs0 rfl g0 s hs).mono ?_
  rintro e w8 ⟨v8, rfl, z8, b8⟩
  rw [hst.out] at z8
  replace z8 : Hid (ZooAt w.heap.size w8 [(f, st), (g, st), (x, st), (y, st)] [(v8, _), (v7, _), (v3, _)]) := z8
  clear b7 z7
  go_wp2_with fail
  refine (zoo_feed w w8 ht he b8 z8 0 f st rfl hgood a ha).mono ?_
  rintro e w9 ⟨v9, rfl, z9, b9⟩
  rw [hsa.out] at z9
  replace z9 : Hid (ZooAt w.heap.size w9 [(f, sa), (g, st), (x, st), (y, st)] [(v9, _), (v8, _), (v7, _), (v3, _)]) := z9
  clear b8 z8
  go_wp2_with fail
  refine (zoo_feed w w9 ht he b9 z9 2 x st rfl hgood a ha).mono ?_
  rintro e w10 ⟨v10, rfl, z10, b10⟩
  rw [hsa.out] at z10
  replace z10 : Hid (ZooAt w.heap.size w10 [(f, sa), (g, st), (x, sa), (y, st)] [(v10, _), (v9, _), (v8, _), (v7, _), (v3, _)]) := z10
  clear b9 z9
  go_wp2_with fail
  refine (zoo_same b10 z10 v9 v10 _ (.tail _ (.head _)) (.head _) (feedGo_hlen _ _ ha)).mono ?_
  rintro e w11 ⟨rfl, z11, b11⟩
  clear b10 z10
  go_wp2_with fail
  refine (zoo_feed w w11 ht he b11 z11 1 g st rfl hgood b hb).mono ?_
  rintro e w12 ⟨v12, rfl, z12, b12⟩
  rw [hsb.out] at z12
  replace z12 : Hid (ZooAt w.heap.size w12 [(f, sa), (g, sb), (x, sa), (y, st)] [(v12, _), (v10, _), (v9, _), (v8, _), (v7, _), (v3, _)]) := z12
  clear b11 z11
  go_wp2_with fail
  refine (zoo_feed w w12 ht he b12 z12 3 y st rfl hgood b hb).mono ?_
  rintro e w13 ⟨v13, rfl, z13, b13⟩
  rw [hsb.out] at z13
  replace z13 : Hid (ZooAt w.heap.size w13 [(f, sa), (g, sb), (x, sa), (y, sb)] [(v13, _), (v12, _), (v10, _), (v9, _), (v8, _), (v7, _), (v3, _)]) := z13
  clear b12 z12
  go_wp2_with fail
  refine (zoo_same b13 z13 v12 v13 _ (.tail _ (.head _)) (.head _) (feedGo_hlen _ _ hb)).mono ?_
  rintro e w14 ⟨rfl, z14, b14⟩
  clear b13 z13
  go_wp2_with fail
  refine (zoo_size z14 0 f sa rfl).mono ?_
  rintro e w' ⟨rfl, rfl⟩
  go_wp2_with fail
  refine (zoo_size z14 2 x sa rfl).mono ?_
  rintro e w' ⟨rfl, rfl⟩
  go_wp2_with fail
  refine (zoo_size z14 1 g sb rfl).mono ?_
  rintro e w' ⟨rfl, rfl⟩
  go_wp2_with fail
  refine (zoo_size z14 3 y sb rfl).mono ?_
  rintro e w' ⟨rfl, rfl⟩
  go_wp2_with fail
  refine (zoo_waits z14 1 g sb rfl).mono ?_
  rintro e w' ⟨rfl, rfl⟩
  go_wp2_with fail
  refine (zoo_waits z14 3 y sb rfl).mono ?_
  rintro e w' ⟨rfl, rfl⟩
  go_wp2_with fail
  refine (feed_nil _ _).mono ?_
  rintro e w' ⟨rfl, rfl⟩
  go_wp2_with fail
  refine (waits_nil _).mono ?_
  rintro e w' ⟨rfl, rfl⟩
  go_wp2_with fail
  refine (size_nil _).mono ?_
  rintro e w' ⟨rfl, rfl⟩
  go_wp2_with fail
  refine (deaf_nil _).mono ?_
  rintro e w' ⟨rfl, rfl⟩
  go_wp2_with fail
  refine (twin_nil _).mono ?_
  rintro e w' ⟨rfl, rfl⟩
  go_wp2_with fail
  go_ret
  exact ⟨by simp, b14.out⟩
end Go.Proofs.YtkocnldkimjonaaDoor
