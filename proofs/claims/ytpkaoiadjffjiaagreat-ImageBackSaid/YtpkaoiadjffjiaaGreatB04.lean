/- Atoms: the loops over a text that ask a byte predicate; the world is as it was. 'Upper', of the program and of the document: each byte in great letters; new memory alone is written. Small letters: 'small' of the layer flag; new memory alone is written. Sets as sorted lists, over any strict total order; plain, no program. Flags in plain lists: as they are kept, and their order. 'set' of the layer flag: a list is copied, sorted, and each kept once: the sorted set of its texts. Canon, of the program and of the document: a flag as it is kept. What a mailbox may be called: walked. -/
import Derived.Test.YtpkaoiadjffjiaaGreatRows
import Derived.Test.YtpkaoiadjffjiaaGreatShelf
import Derived.Test.YtpkaoiadjffjiaaGreatB01
import Derived.Lib.SlicesCompact
import Derived.Lib.Bytealg
import Derived.WideShapes
import Derived.WideAt
namespace Go.Proofs.YtpkaoiadjffjiaaGreat
open Go.RowKit

set_option maxHeartbeats 400000 in
set_option maxHeartbeats 400000 in
def allB (p : Int → Bool) (l : List UInt8) : Bool := l.all fun c => p c.toNat
theorem allB_snoc (p : Int → Bool) (l : List UInt8) (c : UInt8) : allB p (l ++ [c]) = (allB p l && p c.toNat) := by
  simp [allB]
theorem allB_false (p : Int → Bool) (s : ByteArray) (k : Nat) (h : k < s.size) (hp : p s[k].toNat = false) : allB p s.data.toList = false := by
  rw [← List.take_append_drop (k + 1) s.data.toList, take_snoc s k h]
  simp [allB, hp]
/-- 'all' says: at least one byte, and p of each. -/
def allS (p : Int → Bool) (l : List UInt8) : Bool := allB p l && !l.isEmpty

/-- f asks p of a byte. -/
structure Asks (P : Program) (f : FuncId) (p : Int → Bool) : Prop where
  enter : ∀ args w, (callFunc f args).run P w = .ok (.enter f args) w
  says : ∀ (c : Int) (w : World), 0 ≤ c → c < 256 → Calls P f #[.int .u8 c] w fun e w' => e = .returned (.bool (p c)) ∧ w = w'

set_option maxHeartbeats 400000 in
theorem all_any (f : FuncId) (p : Int → Bool) (H : Asks Tryz.prog f p) (s : ByteArray) (hs : s.size ≤ maxLen) (w : World) :
    Calls Tryz.prog 67 #[.string s, .func (.func f) #[] #[]] w fun e w' => e = .returned (.bool (allS p s.data.toList)) ∧ w = w' := by
  unfold maxLen at hs
  have hcf := H.enter
  go_enter Tryz.func67, Tryz.ntmps67
  go_wp2_with fail
  go_loop [8] (fun i => ∃ k : Nat, k ≤ s.size ∧ i = .int .i64 k ∧ Hid (allB p (s.data.toList.take k) = true)) (fun i => s.size - (intOf i).toNat)
  case atStart => exact ⟨0, Nat.zero_le _, rfl, rfl⟩
  case round =>
    obtain ⟨k, hk, rfl, hp⟩ := hrel
    by_cases hlt : k < s.size
    · have hsn : Hid (allB p (s.data.toList.take (k+1)) = p s[k].toNat) := by
        show _ = _
        rw [take_snoc s k hlt, allB_snoc, hp.out]; simp
      go_wp2_with fail
      refine (H.says _ _ (byte_nn _) (byte_lt _)).mono ?_
      rintro e w' ⟨rfl, rfl⟩
      cases hc : p ↑s[k].toNat
      · go_wp2_with fail
        go_ret
        exact ⟨ret_bool (by simp [allS, allB_false p s k hlt hc]), rfl⟩
      · go_wp2_with fail
        refine ⟨⟨k + 1, by omega, by go_num, hsn.out.trans hc⟩, by simp [intOf]; omega⟩
    · obtain rfl : k = s.size := by omega
      go_wp2_with fail
      go_ret
      rw [take_all] at hp
      exact ⟨ret_bool (by have := hp.out; simp [allS, this, ByteArray.toList_eq]), rfl⟩

def inL (c : Int) (l : List UInt8) : Bool := l.any fun d => (d.toNat : Int) == c
/-! the byte predicates of atoms and of mailboxes' names -/
theorem indexByte_neg (l : List UInt8) (c : UInt8) : decide (Lib.indexByte l c < 0) = !inL c.toNat l := by
  induction l with
  | nil => simp [Lib.indexByte, inL]
  | cons b l ih =>
    have hge := Lib.indexByte_ge l c
    have hb : ((b.toNat : Int) == (c.toNat : Int)) = (b == c) := by
      rw [Bool.eq_iff_iff]; simp only [beq_iff_eq]
      exact ⟨fun h => byte_ext h, fun h => by rw [h]⟩
    simp only [Lib.indexByte, inL, List.any_cons, hb] at ih ⊢
    by_cases h : b = c
    case neg =>
      have hf : (b == c) = false := by simpa using h
      simp only [hf, Bool.false_eq_true, if_false, Bool.false_or]
      by_cases h2 : Lib.indexByte l c = -1
      · simp [h2] at ih ⊢; exact ih
      · have h1 : decide (Lib.indexByte l c < 0) = false := by simp; omega
        have h3 : decide (Lib.indexByte l c + 1 < 0) = false := by simp; omega
        rw [← ih, h1, if_neg (by simpa using h2), h3]
    case pos => simp [h]
theorem toUInt8_of (c : Int) (h0 : 0 ≤ c) (h1 : c < 256) : ((c.toNat.toUInt8.toNat : Nat) : Int) = c := by
  have : c.toNat.toUInt8.toNat = c.toNat % 256 := by simp
  rw [this]; omega
/-- the same test of an int that is a byte -/
theorem indexByte_negI (l : List UInt8) (c : Int) (h0 : 0 ≤ c) (h1 : c < 256) : decide (Lib.indexByte l c.toNat.toUInt8 < 0) = !inL c l := by
  rw [indexByte_neg, toUInt8_of c h0 h1]
def atomB (c : Int) : Bool := decide (32 < c) && (decide (c < 127) && !inL c [40, 41, 123, 37, 42, 34, 92, 93])
def boxB (c : Int) : Bool := decide (32 ≤ c) && (decide (c < 127) && !inL c [37, 42, 34, 92])
theorem indexByte_any (l : ByteArray) (c : Int) (h0 : 0 ≤ c) (h1 : c < 256) (w : World) :
    Calls Tryz.prog 66 #[.string l, .int .u8 c] w fun e w' => ∃ r : Int, e = .returned (.int .i64 r) ∧ Hid (decide (r < 0) = !inL c l.data.toList) ∧ w = w' :=
  (Tryz.strings_IndexByte l c w).mono fun _ _ ⟨he, hw⟩ => ⟨_, he, indexByte_negI _ c h0 h1, hw.symm⟩
set_option maxHeartbeats 400000 in
theorem atom1_any (c : Int) (w : World) (h0 : 0 ≤ c) (h1 : c < 256) :
    Calls Tryz.prog 89 #[.int .u8 c] w fun e w' => e = .returned (.bool (atomB c)) ∧ w = w' := by
  go_enter Tryz.func89, Tryz.ntmps89
  go_wp2_with (go_at_call 66; refine (indexByte_any _ _ (by omega) (by omega) _).mono ?_; rintro e w' ⟨r, rfl, hr, rfl⟩)
  all_goals (go_ret; first | (have hr := hr.out; exact ⟨ret_bool (by rw [hr]; unfold atomB; generalize inL c _ = b; cases b <;> simp <;> omega), rfl⟩) | exact ⟨ret_bool (by unfold atomB; generalize inL c _ = b; cases b <;> simp <;> omega), rfl⟩)
set_option maxHeartbeats 400000 in
theorem asks_atom : Asks Tryz.prog 89 atomB := ⟨fun _ _ => by go_simp, fun c w h0 h1 => atom1_any c w h0 h1⟩
set_option maxHeartbeats 400000 in
theorem atom_any (s : ByteArray) (hs : s.size ≤ maxLen) (w : World) :
    Calls Tryz.prog 83 #[.string s] w fun e w' => e = .returned (.bool (allS atomB s.data.toList)) ∧ w = w' := by
  go_enter Tryz.func83, Tryz.ntmps83
  go_wp2_with (go_at_call 67; refine (all_any _ _ asks_atom _ hs _).mono ?_; rintro e w' ⟨rfl, rfl⟩)
  go_ret
  exact ⟨rfl, rfl⟩
end Go.Proofs.YtpkaoiadjffjiaaGreat
namespace Go.Proofs.YtpkaoiadjffjiaaGreat
open Go.RowKit

def upB (c : UInt8) : UInt8 := if 97 ≤ c.toNat ∧ c.toNat ≤ 122 then c - 32 else c
def upL (l : List UInt8) : List UInt8 := l.map upB
theorem upL_snoc (l : List UInt8) (c : UInt8) : upL (l ++ [c]) = upL l ++ [upB c] := by simp [upL]
theorem upB_yes (c : UInt8) (h1 : 97 ≤ (c.toNat : Int)) (h2 : (c.toNat : Int) ≤ 122) : ((upB c).toNat : Int) = c.toNat - 32 := by
  have : (c - 32).toNat = c.toNat - 32 := UInt8.toNat_sub_of_le _ _ (by show 32 ≤ _; rw [UInt8.le_iff_toNat_le]; show 32 ≤ c.toNat; omega)
  rw [upB, if_pos (by omega), this]; omega
theorem upB_no (c : UInt8) (h : ¬ (97 ≤ (c.toNat : Int) ∧ (c.toNat : Int) ≤ 122)) : upB c = c := by
  rw [upB, if_neg (by omega)]

theorem upL_length (l : List UInt8) : (upL l).length = l.length := by simp [upL]
/-- behind k rounds: the first k in great letters, the rest as they were -/
def upTo (l : List UInt8) (k : Nat) : List UInt8 := upL (l.take k) ++ l.drop k
theorem upTo_length (l : List UInt8) (k : Nat) : (upTo l k).length = l.length := by simp [upTo, upL]; omega
theorem upTo_at (s : ByteArray) (k : Nat) (h : k < s.size) : (upTo s.data.toList k).getD k 0 = s[k] := by
  rw [upTo, drop_cons s k h]
  simp [List.getD, upL, show min k s.size = k from by omega]
theorem upTo_no (s : ByteArray) (k : Nat) (h : k < s.size) (hn : upB s[k] = s[k]) : upTo s.data.toList (k + 1) = upTo s.data.toList k := by
  rw [upTo, upTo, take_snoc s k h, drop_cons s k h, upL_snoc, hn]; simp
theorem upTo_yes (s : ByteArray) (k : Nat) (h : k < s.size) : upTo s.data.toList (k + 1) = (upTo s.data.toList k).set k (upB s[k]) := by
  have hl : k < s.data.toList.length := h
  rw [upTo, upTo, take_snoc s k h, drop_cons s k h, upL_snoc, List.set_append_right _ _ (by rw [upL_length, List.length_take]; omega)]
  rw [upL_length, List.length_take, Nat.min_eq_left (by omega)]
  simp
theorem upTo_all (s : ByteArray) : upTo s.data.toList s.size = upL s.data.toList := by
  rw [upTo, take_all, drop_all s (Nat.le_refl _), List.append_nil]

set_option maxHeartbeats 1000000 in
theorem upper_any (s : ByteArray) (hs : s.size ≤ maxLen) (w : World) :
    Calls Tryz.prog 68 #[.string s] w fun e w' => e = .returned (.string ⟨(upL s.data.toList).toArray⟩) ∧ Below w.heap.size w w' := by
  unfold maxLen at hs
  have kc := fun (w : World) => Lib.run_convert_string_bytes (P := Tryz.prog) w 9 99 5 s Tryz.underlying9 Tryz.underlying99 Tryz.underlying5
  go_enter Tryz.func68, Tryz.ntmps68
  go_wp2_with fail
  clear kc
  go_loopw [10] (fun i wr => ∃ (k : Nat), k ≤ s.size ∧ i = .int .i64 k ∧ ByteRow wr w.heap.size 5 (upTo s.data.toList k) ∧ Below w.heap.size w wr) (fun i _ => s.size - (intOf i).toNat)
  case atStart => exact ⟨0, Nat.zero_le _, rfl, byteRow_conv _ _ _, below_conv _ _ _⟩
  case round =>
    obtain ⟨k, hk, rfl, hr, hb⟩ := hrel
    by_cases hlt : k < s.size
    · have hc := hr.cell k (by rw [upTo_length]; exact hlt)
      have hf := hr.free k (by rw [upTo_length]; exact hlt)
      rw [upTo_at s k hlt] at hc
      go_wp2_with fail
      · exact ⟨⟨k + 1, by omega, by go_num, by rw [upTo_yes s k hlt]; exact hr.set k (by rw [upTo_length]; exact hlt) _ _ (by rw [upB_yes _ (by assumption) (by assumption)]), hb.setCell (Nat.le_refl _) _⟩, by simp [intOf]; omega⟩
      · exact ⟨⟨k + 1, by omega, by go_num, by rw [upTo_no s k hlt (upB_no _ (by omega))]; exact hr, hb⟩, by simp [intOf]; omega⟩
      · exact ⟨⟨k + 1, by omega, by go_num, by rw [upTo_no s k hlt (upB_no _ (by omega))]; exact hr, hb⟩, by simp [intOf]; omega⟩
    · obtain rfl : k = s.size := by omega
      have kb := hr.back (P := Tryz.prog) 99 9 s.size (grownCap w s.size 0 5) Tryz.underlying99 Tryz.underlying5 Tryz.underlying9 (by rw [upTo_length, size_len])
      rw [upTo_all] at kb
      go_wp2_with fail
      go_ret
      exact ⟨rfl, hb⟩
end Go.Proofs.YtpkaoiadjffjiaaGreat
namespace Go.Proofs.YtpkaoiadjffjiaaGreat
open Go.RowKit

def lowB (c : UInt8) : UInt8 := if 65 ≤ c.toNat ∧ c.toNat ≤ 90 then c + 32 else c
def lowL (l : List UInt8) : List UInt8 := l.map lowB
theorem lowL_snoc (l : List UInt8) (c : UInt8) : lowL (l ++ [c]) = lowL l ++ [lowB c] := by simp [lowL]
theorem lowB_yes (c : UInt8) (h1 : 65 ≤ (c.toNat : Int)) (h2 : (c.toNat : Int) ≤ 90) : ((lowB c).toNat : Int) = c.toNat + 32 := by
  rw [lowB, if_pos (by omega), UInt8.toNat_add]
  show (((c.toNat + 32) % 256 : Nat) : Int) = _
  omega
theorem lowB_no (c : UInt8) (h : ¬ (65 ≤ (c.toNat : Int) ∧ (c.toNat : Int) ≤ 90)) : lowB c = c := by
  rw [lowB, if_neg (by omega)]

theorem lowL_length (l : List UInt8) : (lowL l).length = l.length := by simp [lowL]
/-- behind k rounds: the first k in great letters, the rest as they were -/
def lowTo (l : List UInt8) (k : Nat) : List UInt8 := lowL (l.take k) ++ l.drop k
theorem lowTo_length (l : List UInt8) (k : Nat) : (lowTo l k).length = l.length := by simp [lowTo, lowL]; omega
theorem lowTo_at (s : ByteArray) (k : Nat) (h : k < s.size) : (lowTo s.data.toList k).getD k 0 = s[k] := by
  rw [lowTo, drop_cons s k h]
  simp [List.getD, lowL, show min k s.size = k from by omega]
theorem lowTo_no (s : ByteArray) (k : Nat) (h : k < s.size) (hn : lowB s[k] = s[k]) : lowTo s.data.toList (k + 1) = lowTo s.data.toList k := by
  rw [lowTo, lowTo, take_snoc s k h, drop_cons s k h, lowL_snoc, hn]; simp
theorem lowTo_yes (s : ByteArray) (k : Nat) (h : k < s.size) : lowTo s.data.toList (k + 1) = (lowTo s.data.toList k).set k (lowB s[k]) := by
  have hl : k < s.data.toList.length := h
  rw [lowTo, lowTo, take_snoc s k h, drop_cons s k h, lowL_snoc, List.set_append_right _ _ (by rw [lowL_length, List.length_take]; omega)]
  rw [lowL_length, List.length_take, Nat.min_eq_left (by omega)]
  simp
theorem lowTo_all (s : ByteArray) : lowTo s.data.toList s.size = lowL s.data.toList := by
  rw [lowTo, take_all, drop_all s (Nat.le_refl _), List.append_nil]

set_option maxHeartbeats 1000000 in
theorem small_any (s : ByteArray) (hs : s.size ≤ maxLen) (w : World) :
    Calls Tryz.prog 84 #[.string s] w fun e w' => e = .returned (.string ⟨(lowL s.data.toList).toArray⟩) ∧ Below w.heap.size w w' := by
  unfold maxLen at hs
  have kc := fun (w : World) => Lib.run_convert_string_bytes (P := Tryz.prog) w 9 99 5 s Tryz.underlying9 Tryz.underlying99 Tryz.underlying5
  go_enter Tryz.func84, Tryz.ntmps84
  go_wp2_with fail
  clear kc
  go_loopw [10] (fun i wr => ∃ (k : Nat), k ≤ s.size ∧ i = .int .i64 k ∧ ByteRow wr w.heap.size 5 (lowTo s.data.toList k) ∧ Below w.heap.size w wr) (fun i _ => s.size - (intOf i).toNat)
  case atStart => exact ⟨0, Nat.zero_le _, rfl, byteRow_conv _ _ _, below_conv _ _ _⟩
  case round =>
    obtain ⟨k, hk, rfl, hr, hb⟩ := hrel
    by_cases hlt : k < s.size
    · have hc := hr.cell k (by rw [lowTo_length]; exact hlt)
      have hf := hr.free k (by rw [lowTo_length]; exact hlt)
      rw [lowTo_at s k hlt] at hc
      go_wp2_with fail
      · exact ⟨⟨k + 1, by omega, by go_num, by rw [lowTo_yes s k hlt]; exact hr.set k (by rw [lowTo_length]; exact hlt) _ _ (by rw [lowB_yes _ (by assumption) (by assumption)]), hb.setCell (Nat.le_refl _) _⟩, by simp [intOf]; omega⟩
      · exact ⟨⟨k + 1, by omega, by go_num, by rw [lowTo_no s k hlt (lowB_no _ (by omega))]; exact hr, hb⟩, by simp [intOf]; omega⟩
      · exact ⟨⟨k + 1, by omega, by go_num, by rw [lowTo_no s k hlt (lowB_no _ (by omega))]; exact hr, hb⟩, by simp [intOf]; omega⟩
    · obtain rfl : k = s.size := by omega
      have kb := hr.back (P := Tryz.prog) 99 9 s.size (grownCap w s.size 0 5) Tryz.underlying99 Tryz.underlying5 Tryz.underlying9 (by rw [lowTo_length, size_len])
      rw [lowTo_all] at kb
      go_wp2_with fail
      go_ret
      exact ⟨rfl, hb⟩
end Go.Proofs.YtpkaoiadjffjiaaGreat
namespace Go.Proofs.YtpkaoiadjffjiaaGreat

structure STO {α : Type} (lt : α → α → Bool) : Prop where
  irr : ∀ a, lt a a = false
  trans : ∀ a b c, lt a b = true → lt b c = true → lt a c = true
  tot : ∀ a b, a ≠ b → lt a b = true ∨ lt b a = true
def SSorted {α : Type} (lt : α → α → Bool) (l : List α) : Prop := l.Pairwise fun a b => lt a b = true
theorem ssorted_ext {α : Type} {lt : α → α → Bool} (H : STO lt) : ∀ (l m : List α), SSorted lt l → SSorted lt m → (∀ x, x ∈ l ↔ x ∈ m) → l = m
  | [], [], _, _, _ => rfl
  | [], b :: m, _, _, h => by have := (h b).2 (by simp); simp at this
  | a :: l, [], _, _, h => by have := (h a).1 (by simp); simp at this
  | a :: l, b :: m, hl, hm, h => by
    obtain ⟨hl1, hl2⟩ := List.pairwise_cons.1 hl
    obtain ⟨hm1, hm2⟩ := List.pairwise_cons.1 hm
    have hab : a = b := by
      by_cases e : a = b
      · exact e
      · have h1 : a ∈ m := by
          rcases List.mem_cons.1 ((h a).1 (by simp)) with h | h
          · exact absurd h e
          · exact h
        have h2 : b ∈ l := by
          rcases List.mem_cons.1 ((h b).2 (by simp)) with h | h
          · exact absurd h.symm e
          · exact h
        have := H.trans _ _ _ (hl1 b h2) (hm1 a h1)
        rw [H.irr] at this; cases this
    subst hab
    congr 1
    refine ssorted_ext H l m hl2 hm2 fun x => ⟨fun hx => ?_, fun hx => ?_⟩
    · rcases List.mem_cons.1 ((h x).1 (by simp [hx])) with rfl | h
      · have := hl1 x hx; rw [H.irr] at this; cases this
      · exact h
    · rcases List.mem_cons.1 ((h x).2 (by simp [hx])) with rfl | h
      · have := hm1 x hx; rw [H.irr] at this; cases this
      · exact h
/-- f, in its place -/
def insS {α : Type} (lt : α → α → Bool) (f : α) : List α → List α
  | [] => [f]
  | x :: r => if lt f x then f :: x :: r else x :: insS lt f r
/-- one more, if it isn't there -/
def withS {α : Type} [DecidableEq α] (lt : α → α → Bool) (l : List α) (f : α) : List α := if f ∈ l then l else insS lt f l
def setS {α : Type} [DecidableEq α] (lt : α → α → Bool) (l : List α) : List α := l.foldl (withS lt) []
theorem mem_insS {α : Type} (lt : α → α → Bool) (f x : α) : ∀ l : List α, x ∈ insS lt f l ↔ x = f ∨ x ∈ l
  | [] => by simp [insS]
  | y :: r => by
    rw [insS]
    split
    · simp
    · rw [List.mem_cons, mem_insS lt f x r, List.mem_cons]
      constructor
      · rintro (h | h | h) <;> simp [h]
      · rintro (h | h | h) <;> simp [h]
theorem mem_withS {α : Type} [DecidableEq α] (lt : α → α → Bool) (l : List α) (f x : α) : x ∈ withS lt l f ↔ x = f ∨ x ∈ l := by
  rw [withS]
  split
  · rename_i h
    constructor
    · exact .inr
    · rintro (rfl | h1)
      · exact h
      · exact h1
  · exact mem_insS lt f x l
theorem sorted_insS {α : Type} {lt : α → α → Bool} (H : STO lt) (f : α) : ∀ l : List α, SSorted lt l → f ∉ l → SSorted lt (insS lt f l)
  | [], _, _ => List.pairwise_singleton _ _
  | y :: r, h, hn => by
    obtain ⟨h1, h2⟩ := List.pairwise_cons.1 h
    rw [insS]
    split
    · rename_i hf
      refine List.pairwise_cons.2 ⟨fun z hz => ?_, h⟩
      rcases List.mem_cons.1 hz with rfl | hz
      · exact hf
      · exact H.trans _ _ _ hf (h1 z hz)
    · rename_i hf
      refine List.pairwise_cons.2 ⟨fun z hz => ?_, sorted_insS H f r h2 (fun h => hn (by simp [h]))⟩
      rcases (mem_insS lt f z r).1 hz with rfl | hz
      · rcases H.tot z y (fun e => hn (by simp [e])) with h | h
        · exact absurd h hf
        · exact h
      · exact h1 z hz
theorem sorted_withS {α : Type} [DecidableEq α] {lt : α → α → Bool} (H : STO lt) (l : List α) (f : α) (h : SSorted lt l) : SSorted lt (withS lt l f) := by
  rw [withS]
  split
  · exact h
  · rename_i hn
    exact sorted_insS H f l h hn
theorem foldl_withS {α : Type} [DecidableEq α] {lt : α → α → Bool} (H : STO lt) : ∀ (l m : List α), SSorted lt m → SSorted lt (l.foldl (withS lt) m) ∧ ∀ x, x ∈ l.foldl (withS lt) m ↔ x ∈ m ∨ x ∈ l
  | [], m, h => ⟨h, fun x => by simp⟩
  | y :: r, m, h => by
    have ih := foldl_withS H r (withS lt m y) (sorted_withS H m y h)
    refine ⟨ih.1, fun x => ?_⟩
    rw [List.foldl_cons, ih.2, mem_withS, List.mem_cons]
    constructor
    · rintro ((h | h) | h) <;> simp [h]
    · rintro (h | h | h) <;> simp [h]
theorem sorted_setS {α : Type} [DecidableEq α] {lt : α → α → Bool} (H : STO lt) (l : List α) : SSorted lt (setS lt l) := (foldl_withS H l [] List.Pairwise.nil).1
theorem mem_setS {α : Type} [DecidableEq α] {lt : α → α → Bool} (H : STO lt) (l : List α) (x : α) : x ∈ setS lt l ↔ x ∈ l := by
  rw [setS, (foldl_withS H l [] List.Pairwise.nil).2]; simp
theorem setS_of_sorted {α : Type} [DecidableEq α] {lt : α → α → Bool} (H : STO lt) (l : List α) (h : SSorted lt l) : setS lt l = l := ssorted_ext H _ _ (sorted_setS H l) h (mem_setS H l)
theorem insS_len {α : Type} (lt : α → α → Bool) (f : α) : ∀ l : List α, (insS lt f l).length = l.length + 1
  | [] => rfl
  | x :: r => by
    rw [insS]
    split
    · simp
    · simp [insS_len lt f r]
theorem foldl_withS_len {α : Type} [DecidableEq α] (lt : α → α → Bool) : ∀ (l m : List α), (l.foldl (withS lt) m).length ≤ m.length + l.length
  | [], m => by simp
  | y :: r, m => by
    have h1 : (withS lt m y).length ≤ m.length + 1 := by
      rw [withS]
      split
      · omega
      · rw [insS_len]; exact Nat.le_refl _
    have := foldl_withS_len lt r (withS lt m y)
    rw [List.foldl_cons, List.length_cons]; omega
theorem setS_len {α : Type} [DecidableEq α] (lt : α → α → Bool) (l : List α) : (setS lt l).length ≤ l.length := by
  have := foldl_withS_len lt l []
  simpa [setS] using this
/-- sorted, and then each kept once -/
theorem compact_set {α : Type} [DecidableEq α] [Inhabited α] {lt : α → α → Bool} (H : STO lt) (d : Array α) (hd : ∀ i j, i < j → j < d.size → lt d[j]! d[i]! = false) :
    ∀ m, m ≤ d.size → SSorted lt (Lib.compactUpTo d m) ∧ (∀ x, x ∈ Lib.compactUpTo d m ↔ ∃ j, j < m ∧ d[j]! = x)
  | 0, _ => ⟨by simp [Lib.compactUpTo, SSorted], fun x => by simp [Lib.compactUpTo]⟩
  | m + 1, hm => by
    obtain ⟨h1, h2⟩ := compact_set H d hd m (by omega)
    rw [Lib.compactUpTo_succ]
    cases hk : Lib.keeps d m
    · simp only [Bool.false_eq_true, if_false, List.append_nil]
      refine ⟨h1, fun x => ?_⟩
      rw [h2]
      have hm0 : m ≠ 0 ∧ d[m]! = d[m - 1]! := by
        rw [Lib.keeps] at hk
        have := of_decide_eq_false hk
        constructor
        · intro e; exact this (.inl e)
        · by_cases e : d[m]! = d[m - 1]!
          · exact e
          · exact absurd (.inr e) this
      constructor
      · rintro ⟨j, hj, rfl⟩; exact ⟨j, by omega, rfl⟩
      · rintro ⟨j, hj, rfl⟩
        rcases Nat.lt_or_ge j m with h | h
        · exact ⟨j, h, rfl⟩
        · obtain rfl : j = m := by omega
          exact ⟨j - 1, by omega, hm0.2.symm⟩
    · simp only [if_true]
      have hlt : ∀ j, j < m → lt d[j]! d[m]! = true := by
        intro j hj
        have hk' : m = 0 ∨ d[m]! ≠ d[m - 1]! := of_decide_eq_true hk
        rcases hk' with hk' | hk'
        · omega
        · have hprev : lt d[m - 1]! d[m]! = true := by
            rcases H.tot d[m - 1]! d[m]! (fun e => hk' e.symm) with h | h
            · exact h
            · rw [hd (m - 1) m (by omega) (by omega)] at h; cases h
          rcases Nat.lt_or_ge j (m - 1) with h | h
          · by_cases e : d[j]! = d[m - 1]!
            · rw [e]; exact hprev
            · rcases H.tot _ _ e with h3 | h3
              · exact H.trans _ _ _ h3 hprev
              · rw [hd j (m - 1) h (by omega)] at h3; cases h3
          · obtain rfl : j = m - 1 := by omega
            exact hprev
      refine ⟨List.pairwise_append.2 ⟨h1, List.pairwise_singleton _ _, fun a ha b hb => ?_⟩, fun x => ?_⟩
      · obtain ⟨j, hj, rfl⟩ := (h2 a).1 ha
        have : b = d[m]! := by simpa using hb
        subst this
        exact hlt j hj
      · rw [List.mem_append, h2]
        constructor
        · rintro (⟨j, hj, rfl⟩ | h)
          · exact ⟨j, by omega, rfl⟩
          · have : x = d[m]! := by simpa using h
            exact ⟨m, by omega, this.symm⟩
        · rintro ⟨j, hj, rfl⟩
          rcases Nat.lt_or_ge j m with h | h
          · exact .inl ⟨j, h, rfl⟩
          · obtain rfl : j = m := by omega
            exact .inr (by simp)
theorem get!_list {α : Type} [Inhabited α] (l : List α) (j : Nat) : l.toArray[j]! = l[j]! := by simp
theorem compact_setS {α : Type} [DecidableEq α] [Inhabited α] {lt : α → α → Bool} (H : STO lt) (l m : List α) (hm : ∀ i j, i < j → j < m.length → lt m[j]! m[i]! = false) (hp : ∀ x, x ∈ m ↔ x ∈ l) : Lib.compactUpTo m.toArray m.length = setS lt l := by
  obtain ⟨h1, h2⟩ := compact_set H m.toArray (fun i j hij hj => by rw [get!_list, get!_list]; exact hm i j hij (by simpa using hj)) m.length (by simp)
  refine ssorted_ext H _ _ h1 (sorted_setS H l) fun x => ?_
  rw [h2, mem_setS H, ← hp]
  constructor
  · rintro ⟨j, hj, rfl⟩
    rw [get!_list, getElem!_pos m j hj]
    exact List.getElem_mem hj
  · intro hx
    obtain ⟨j, hj, e⟩ := List.getElem_of_mem hx
    exact ⟨j, hj, by rw [get!_list, getElem!_pos m j hj]; exact e⟩
/-! texts in their order -/
theorem cmp_lt : ∀ a b : List UInt8, decide (Lib.compareBytes a b < 0) = bytesBefore a b
  | [], [] => rfl
  | [], _ :: _ => rfl
  | _ :: _, [] => rfl
  | a :: x, b :: y => by
    rw [Lib.compareBytes, bytesBefore]
    by_cases h1 : a < b
    · simp [h1]
    · by_cases h2 : b < a
      · have h3 : ¬ a = b := fun e => by subst e; exact h1 h2
        simp [h1, h2, h3]
      · have h3 : a = b := by
          have := UInt8.not_lt.1 h1
          have := UInt8.not_lt.1 h2
          exact UInt8.le_antisymm ‹_› ‹_›
        subst h3
        simp [h1, cmp_lt x y]
theorem bytes_sto : STO (α := List UInt8) bytesBefore := ⟨WideAt.bytes_irrefl, fun a b c => WideShapes.bytes_trans a b c, fun a b => WideAt.bytes_total a b⟩
end Go.Proofs.YtpkaoiadjffjiaaGreat
namespace Go.Proofs.YtpkaoiadjffjiaaGreat
open Go.RowKit

def sysL : List (List UInt8) := [[92, 65, 110, 115, 119, 101, 114, 101, 100], [92, 70, 108, 97, 103, 103, 101, 100], [92, 68, 101, 108, 101, 116, 101, 100], [92, 83, 101, 101, 110], [92, 68, 114, 97, 102, 116]]
def keyB (l : List UInt8) : Bool := allS atomB l && decide (l.length ≤ 32)
/-- a flag as it is kept -/
def canonL (s : List UInt8) : Option (List UInt8) := match sysL.find? (fun f => upL f == upL s) with
  | some f => some f
  | none => if keyB s then some (lowL s) else none
def placeL (f : List UInt8) : Nat := sysL.idxOf f
def fcmp (a b : List UInt8) : Int := if placeL a = placeL b then Lib.compareBytes a b else (placeL a : Int) - placeL b
def flt (a b : List UInt8) : Bool := decide (fcmp a b < 0)
theorem flt_eq (a b : List UInt8) : flt a b = if placeL a = placeL b then bytesBefore a b else decide (placeL a < placeL b) := by
  rw [flt, fcmp]
  split
  · exact cmp_lt a b
  · rw [decide_eq_decide]; omega
theorem flt_sto : STO flt := by
  refine ⟨fun a => by rw [flt_eq, if_pos rfl]; exact bytes_sto.irr a, fun a b c h1 h2 => ?_, fun a b h => ?_⟩
  · rw [flt_eq] at h1 h2 ⊢
    by_cases e1 : placeL a = placeL b
    · rw [if_pos e1] at h1
      by_cases e2 : placeL b = placeL c
      · rw [if_pos e2] at h2
        rw [if_pos (e1.trans e2)]
        exact bytes_sto.trans _ _ _ h1 h2
      · rw [if_neg e2] at h2
        rw [if_neg (by omega)]
        rw [e1]; exact h2
    · rw [if_neg e1] at h1
      by_cases e2 : placeL b = placeL c
      · rw [if_pos e2] at h2
        rw [if_neg (by omega), ← e2]; exact h1
      · rw [if_neg e2] at h2
        simp only [decide_eq_true_eq] at h1 h2
        rw [if_neg (by omega)]
        simp only [decide_eq_true_eq]; omega
  · rw [flt_eq, flt_eq]
    by_cases e1 : placeL a = placeL b
    · rw [if_pos e1, if_pos e1.symm]
      exact bytes_sto.tot a b h
    · rw [if_neg e1, if_neg (fun e => e1 e.symm)]
      simp only [decide_eq_true_eq]; omega
def fset (l : List (List UInt8)) : List (List UInt8) := setS flt l
theorem placeL_le (f : List UInt8) : placeL f ≤ 5 := List.idxOf_le_length
theorem eq_str (u v : ByteArray) : (u.toList == v.toList) = (u.data.toList == v.data.toList) := by rw [ByteArray.toList_eq, ByteArray.toList_eq]
/-- the call laid blocks, and drew, and nothing else -/
def Lays (w : World) (w' : World) : Prop := ∃ os : Array Obj, w' = Sort.grow w os
theorem Lays.below {w w' : World} (h : Lays w w') : Below w.heap.size w w' := by
  obtain ⟨os, rfl⟩ := h
  exact ⟨rfl, rfl, rfl, by simp [Sort.grow], fun k hk => by simp [Sort.grow, Array.getElem?_append, hk]⟩
theorem Lays.alloc (w : World) (o : Obj) : Lays w (w.alloc o) := ⟨#[o], Sort.alloc_eq_grow w o⟩
theorem Lays.trans {a b c : World} (h : Lays a b) (k : Lays b c) : Lays a c := by
  obtain ⟨o1, rfl⟩ := h
  obtain ⟨o2, rfl⟩ := k
  exact ⟨o1 ++ o2, Sort.grow_grow _ _ _⟩
theorem Lays.refl (w : World) : Lays w w := ⟨#[], (Sort.grow_empty w).symm⟩
def sysV : Value := .agg #[.string ⟨#[92, 65, 110, 115, 119, 101, 114, 101, 100]⟩, .string ⟨#[92, 70, 108, 97, 103, 103, 101, 100]⟩, .string ⟨#[92, 68, 101, 108, 101, 116, 101, 100]⟩, .string ⟨#[92, 83, 101, 101, 110]⟩, .string ⟨#[92, 68, 114, 97, 102, 116]⟩]
set_option maxHeartbeats 400000 in
theorem system_any (w : World) : Calls Tryz.prog 82 #[] w fun e w' => e = .returned sysV ∧ Lays w w' := by
  go_enter Tryz.func82, Tryz.ntmps82
  go_wp2_with fail
  refine bodyPost_ret (v := sysV) ?_ rfl ⟨rfl, .alloc _ _⟩
  unfold results
  rw [show Tryz.f82.results = #[.cell 0 125] from rfl]
  simp [asAddr]
  go_simp
  rfl
/-- texts as the program holds them -/
def mkB (l : List UInt8) : ByteArray := ⟨l.toArray⟩
theorem mkB_list (l : List UInt8) : (mkB l).data.toList = l := rfl
theorem mkB_inj {a b : List UInt8} (h : mkB a = mkB b) : a = b := by
  have := congrArg (fun s : ByteArray => s.data.toList) h
  simpa [mkB] using this
theorem idxFromS_list : ∀ (l : List (List UInt8)) (x : List UInt8) (i : Nat), Lib.idxFromS (l.map mkB) (mkB x) i = if x ∈ l then ((i + l.idxOf x : Nat) : Int) else -1
  | [], x, i => by simp [Lib.idxFromS]
  | z :: r, x, i => by
    rw [List.map_cons, Lib.idxFromS]
    by_cases h : z = x
    · subst h
      simp
    · rw [if_neg (fun e => h (mkB_inj e)), idxFromS_list r x (i + 1)]
      by_cases hx : x ∈ r
      · have e : (z :: r).idxOf x = r.idxOf x + 1 := by rw [List.idxOf_cons, show (z == x) = false from by simpa using h]; rfl
        rw [if_pos hx, if_pos (List.mem_cons_of_mem _ hx), e]
        omega
      · rw [if_neg hx, if_neg (fun e => by rcases List.mem_cons.1 e with e | e; exact h e.symm; exact hx e)]
set_option maxHeartbeats 400000 in
theorem place_any (x : List UInt8) (w : World) : Calls Tryz.prog 92 #[encStr x] w fun e w' => e = .returned (.int .i64 (placeL x)) ∧ Lays w w' := by
  go_enter Tryz.func92, Tryz.ntmps92
  go_wp2_with fail
  refine (system_any w).mono ?_
  rintro e w1 ⟨rfl, l1⟩
  unfold sysV
  go_wp2_with fail
  have hi := Tryz.slices_Index_string w1.heap.size 0 5 5 (sysL.map mkB) (mkB x) (w1.alloc (.cells #[.string ⟨#[92, 65, 110, 115, 119, 101, 114, 101, 100]⟩, .string ⟨#[92, 70, 108, 97, 103, 103, 101, 100]⟩, .string ⟨#[92, 68, 101, 108, 101, 116, 101, 100]⟩, .string ⟨#[92, 83, 101, 101, 110]⟩, .string ⟨#[92, 68, 114, 97, 102, 116]⟩] 125)) (by decide) (by decide) (fun j hj => by
    have hj5 : j < 5 := hj
    match j, hj5 with
    | 0, _ => simp [sysL, mkB, List.getD]
    | 1, _ => simp [sysL, mkB, List.getD]
    | 2, _ => simp [sysL, mkB, List.getD]
    | 3, _ => simp [sysL, mkB, List.getD]
    | 4, _ => simp [sysL, mkB, List.getD])
  rw [show (sysL.map mkB).take 5 = sysL.map mkB from rfl, Lib.idxOfS, idxFromS_list] at hi
  have hle := placeL_le x
  by_cases hm : x ∈ sysL
  · rw [if_pos hm, Nat.zero_add] at hi
    replace hi : Calls Tryz.prog 104 #[.slice (some ⟨w1.heap.size, 0, none⟩) 5 5, encStr x] _ (fun e w' => e = .returned (.int .i64 ((placeL x : Nat) : Int)) ∧ w' = _) := hi
    refine hi.mono ?_
    rintro e w2 ⟨rfl, rfl⟩
    clear hi
    go_wp2_with fail
    go_ret
    exact ⟨rfl, l1.trans (Lays.alloc _ _)⟩
  · have h5 : placeL x = 5 := List.idxOf_eq_length hm
    rw [if_neg hm] at hi
    refine hi.mono ?_
    rintro e w2 ⟨rfl, rfl⟩
    replace h5 := Lib.hid h5
    clear hi
    go_wp2_with fail
    go_ret
    exact ⟨by rw [h5.out]; rfl, l1.trans (Lays.alloc _ _)⟩
set_option maxHeartbeats 400000 in
theorem ahead_any (x y : List UInt8) (w : World) : Calls Tryz.prog 87 #[encStr x, encStr y] w fun e w' => e = .returned (.int .i64 (fcmp x y)) ∧ Lays w w' := by
  have hx := placeL_le x
  have hy := placeL_le y
  go_enter Tryz.func87, Tryz.ntmps87
  go_wp2_with fail
  refine (place_any x w).mono ?_
  rintro e w1 ⟨rfl, l1⟩
  go_wp2_with fail
  refine (place_any y w1).mono ?_
  rintro e w2 ⟨rfl, l2⟩
  have l12 := Lib.hid (l1.trans l2)
  clear l1 l2
  by_cases h : placeL x = placeL y
  · have hf : fcmp x y = Lib.compareBytes x y := by rw [fcmp, if_pos h]
    replace hf := Lib.hid hf
    rw [h]
    clear h
    go_wp2_with fail
    refine (Tryz.strings_Compare (mkB x) (mkB y) w2).mono ?_
    rintro e w3 ⟨rfl, rfl⟩
    go_wp2_with fail
    go_ret
    exact ⟨by rw [hf.out]; rfl, l12.out⟩
  · have hf : fcmp x y = (placeL x : Int) - placeL y := by rw [fcmp, if_neg h]
    have hne : ((placeL x : Int) != (placeL y : Int)) = true := by
      rw [bne_iff_ne]; omega
    replace hf := Lib.hid hf
    clear h
    go_wp2_with fail
    go_ret
    exact ⟨by rw [hf.out]; rfl, l12.out⟩
end Go.Proofs.YtpkaoiadjffjiaaGreat
namespace Go.Proofs.YtpkaoiadjffjiaaGreat
open Go.RowKit Go.Lib Go.Sort

/-- v is a slice of the call's own (from block B on), free to be written, that holds these texts -/
def HoldsSl (B : Nat) (w : World) (v : Value) (l : List (List UInt8)) : Prop := ∃ ao cap, v = .slice ao l.length cap ∧ (l = [] ∨ ∃ g, ao = some ⟨g, 0, none⟩ ∧ B ≤ g ∧ g < w.heap.size ∧ l.length ≤ cap ∧ Holds encStr w g 0 l.toArray)
theorem HoldsSl.rd {B : Nat} {w : World} {v : Value} {l : List (List UInt8)} (h : HoldsSl B w v l) : Rd w v l.length (l.map encStr) := by
  obtain ⟨ao, cap, rfl, rfl | ⟨g, rfl, hB, hg, hc, hh⟩⟩ := h
  · exact ⟨ao, cap, rfl, .inl rfl⟩
  · refine ⟨_, cap, rfl, .inr ⟨g, 0, rfl, hg, hc, fun i u hu => ?_⟩⟩
    have hi : i < l.length := by
      have := (List.getElem?_eq_some_iff.1 hu).1
      simpa using this
    have := (hh i (by simpa using hi)).1
    rw [this]
    rw [List.getElem?_map, List.getElem?_eq_getElem hi] at hu
    rw [get!_list, getElem!_pos l i hi]
    exact hu
theorem block_putRow {w : World} {blk off k : Nat} (d : Array (List UInt8)) (h : k ≠ blk) : (putRow encStr w blk off d).heap[k]? = w.heap[k]? := by
  unfold putRow mapBlock
  simp [Array.getElem?_modify, Ne.symm h]
theorem below_putRow {B : Nat} {w0 w : World} (h : Below B w0 w) (n blk off : Nat) (d : Array (List UInt8)) (hb : B ≤ blk) : Below B w0 (putRow encStr (Sort.ahead w n) blk off d) :=
  ⟨h.os, h.tape, h.output, by rw [size_putRow]; exact h.size, fun k hk => (block_putRow d (by omega)).trans (h.block k hk)⟩
theorem below_sortWorld {B : Nat} {w0 w : World} (h : Below B w0 w) (n blk off : Nat) (d : Array (List UInt8)) (os : Array Obj) (hb : B ≤ blk) (hw : B ≤ w0.heap.size) : Below B w0 (sortWorld encStr w blk off n d os) := by
  have h1 := below_putRow h n blk off d hb
  have h2 : Lays (putRow encStr (Sort.ahead w n) blk off d) (sortWorld encStr w blk off n d os) := ⟨os, rfl⟩
  exact h1.trans (h2.below.mono (Nat.le_trans hw h1.size))
theorem holds_left {w : World} {g : Nat} {a b : List (List UInt8)} (h : Holds encStr w g 0 (a ++ b).toArray) : Holds encStr w g 0 a.toArray := fun j hj => by
  have hj' : j < a.length := by simpa using hj
  have h1 := h j (by simp; omega)
  rw [get!_list, getElem!_pos (a ++ b) j (by simp; omega), List.getElem_append_left hj'] at h1
  rw [get!_list, getElem!_pos a j hj']
  exact h1
theorem one_encStr : OneCell encStr := fun _ => rfl
theorem flt_lt : ltOf fcmp = flt := rfl
theorem flt_swo : SWO (ltOf fcmp) := by
  rw [flt_lt]
  refine ⟨flt_sto.irr, flt_sto.trans, fun x y z h1 h2 => ?_⟩
  by_cases e : x = z
  · subst e; exact flt_sto.irr x
  · by_cases e1 : x = y
    · subst e1; exact h2
    · by_cases e2 : y = z
      · subst e2; exact h1
      · have h3 : flt y x = true := by
          rcases flt_sto.tot x y e1 with h | h
          · rw [h1] at h; cases h
          · exact h
        have h4 : flt z y = true := by
          rcases flt_sto.tot y z e2 with h | h
          · rw [h2] at h; cases h
          · exact h
        have h5 := flt_sto.trans _ _ _ h4 h3
        cases h6 : flt x z
        · rfl
        · have := flt_sto.trans _ _ _ h6 h5
          rw [flt_sto.irr] at this; cases this
theorem flt_tot (x y : List UInt8) (h1 : ltOf fcmp x y = false) (h2 : ltOf fcmp y x = false) : x = y := by
  rw [flt_lt] at h1 h2
  by_cases e : x = y
  · exact e
  · rcases flt_sto.tot x y e with h | h
    · rw [h1] at h; cases h
    · rw [h2] at h; cases h
theorem cmp_lays (blk off size : Nat) (w : World) : CmpLays1 Tryz.prog 87 #[] encStr fcmp blk off size w := fun m os dk _ x y => by
  refine (ahead_any x y _).mono fun e w' ⟨he, os', hw⟩ => ⟨he, 0, os', ?_⟩
  rw [hw]; rfl
def sortL (l : List (List UInt8)) : List (List UInt8) := l.mergeSort fun x y => !(ltOf fcmp) y x
theorem sortL_len (l : List (List UInt8)) : (sortL l).length = l.length := List.length_mergeSort _
theorem sortL_mem (l : List (List UInt8)) (x : List UInt8) : x ∈ sortL l ↔ x ∈ l := List.mem_mergeSort
theorem sortL_sorted (l : List (List UInt8)) : ∀ i j, i < j → j < (sortL l).length → flt (sortL l)[j]! (sortL l)[i]! = false := by
  have hp : (sortL l).Pairwise fun a b => (!(ltOf fcmp) b a) = true := List.pairwise_mergeSort (fun a b c h1 h2 => by
    simp only [Bool.not_eq_true'] at h1 h2 ⊢
    exact flt_swo.ntrans _ _ _ h2 h1) (fun a b => by
    rw [flt_lt]
    cases h1 : flt b a
    · rfl
    · cases h2 : flt a b
      · rfl
      · have := flt_sto.trans _ _ _ h1 h2
        rw [flt_sto.irr] at this; cases this) l
  intro i j hij hj
  have := List.pairwise_iff_getElem.1 hp i j (by omega) hj hij
  rw [getElem!_pos _ j hj, getElem!_pos _ i (by omega)]
  simpa [flt_lt] using this
theorem compact_sortL (l : List (List UInt8)) : compactUpTo (sortL l).toArray (sortL l).toArray.size = fset l := compact_setS flt_sto l (sortL l) (sortL_sorted l) (sortL_mem l)
def SetRet (l : List (List UInt8)) (w : World) (e : Ending) (w' : World) : Prop := ∃ v', e = .returned v' ∧ Hid (HoldsSl w.heap.size w' v' (fset l)) ∧ Hid (Below w.heap.size w w')
set_option maxHeartbeats 1000000 in
theorem set_any (v : Value) (l : List (List UInt8)) (w : World) (hr : Rd w v l.length (l.map encStr)) (hl : l.length * 16 ≤ 140737488355328) :
    Calls Tryz.prog 78 #[v] w (SetRet l w) := by
  have eg : ∀ args w, (callFunc 87 args).run Tryz.prog w = .ok (.enter 87 args) w := enters_of Tryz.func87 (by kernel_rfl) rfl
  obtain ⟨ao, cap, rfl, h0⟩ := hr
  have hempty : l = [] → Calls Tryz.prog 78 #[.slice ao l.length cap] w (SetRet l w) := by
    rintro rfl
    have hc : Calls Tryz.prog 85 #[.slice ao 0 cap] w fun e w' => ∃ ao' cap', e = .returned (.slice ao' 0 cap') ∧ Below w.heap.size w w' := by
      cases ao with
      | none => exact (Tryz.slices_Clone_string_nil 0 cap w).mono fun _ _ ⟨he, hw⟩ => ⟨none, 0, he, by rw [hw]; exact Below.refl _ _⟩
      | some a => exact (Tryz.slices_Clone_string_zero a cap w).mono fun _ _ ⟨v', he, ho, _, hb⟩ => by
                    rcases ho.2 with ⟨rfl, _⟩ | ⟨g, cap', cur, rfl, _⟩
                    · exact ⟨none, 0, he, hb⟩
                    · exact ⟨_, cap', he, hb⟩
    replace hc := Lib.hid hc
    go_enter Tryz.func78, Tryz.ntmps78
    go_wp2_with fail
    refine hc.out.mono ?_
    rintro e w1 ⟨ao', cap', rfl, b1⟩
    go_wp2_with fail
    refine (Tryz.slices_SortFunc_none (α := List UInt8) ao' cap' (.func (.func 87) #[] #[]) w1).mono ?_
    rintro e w2 ⟨rfl, rfl⟩
    go_wp2_with fail
    refine (Tryz.slices_Compact_string_empty ao' cap' _).mono ?_
    rintro e w3 ⟨rfl, rfl⟩
    go_wp2_with fail
    go_ret
    exact ⟨_, rfl, Lib.hid ⟨ao', cap', rfl, .inl rfl⟩, Lib.hid b1⟩
  rcases h0 with h0 | ⟨b, o, rfl, hb, _, hcell⟩
  · exact hempty (List.eq_nil_of_length_eq_zero h0)
  · by_cases hl0 : l = []
    · exact hempty hl0
    · clear hempty
      have hpos : 0 < l.length := by
        rcases Nat.eq_zero_or_pos l.length with h | h
        · exact absurd (List.eq_nil_of_length_eq_zero h) hl0
        · exact h
      have hc := Tryz.slices_Clone_string b o l.length cap (l.map mkB) w (by simp) hl (fun j hj => by
        have hj' : j < l.length := by simpa using hj
        rw [hcell j (encStr l[j]) (by simp [hj'])]
        simp [List.getD, hj', mkB, encStr])
      rw [show ((l.map mkB).take l.length).map Value.string = l.map encStr by
        rw [List.take_of_length_le (by simp), List.map_map]; rfl] at hc
      replace hc := Lib.hid hc
      clear hcell
      go_enter Tryz.func78, Tryz.ntmps78
      go_wp2_with fail
      refine hc.out.mono ?_
      rintro e w1 ⟨v1, rfl, ho, hnn, b1⟩
      obtain ⟨g, cap1, rfl, hg, hgl, hcap, hH⟩ : ∃ g cap1, v1 = .slice (some ⟨g, 0, none⟩) l.length cap1 ∧ w.heap.size ≤ g ∧ g < w1.heap.size ∧ l.length ≤ cap1 ∧ Holds encStr w1 g 0 l.toArray := by
        have hcs := fun g' h => World.ownsRow.cells ho (g := g') h
        rcases ho.2 with ⟨rfl, _⟩ | ⟨g, cap1, cur, rfl, hg, hcells, hcp, _⟩
        · exact absurd rfl hnn
        · refine ⟨g, cap1, rfl, hg, (Array.getElem?_eq_some_iff.1 hcells).1, hcp, fun j hj => ?_⟩
          have hj' : j < l.length := by simpa using hj
          refine ⟨?_, by simp only [World.frozen?, hcells]; simp⟩
          have := hcs g rfl j (encStr l[j]) (by simp [hj'])
          rw [get!_list, getElem!_pos l j hj']
          simpa [Addr.add_lit] using this
      clear hnn ho
      have hsort := Tryz.slices_SortFunc_total encStr one_encStr fcmp flt_swo 87 #[] g 0 cap1 l.toArray w1 eg (cmp_lays _ _ _ _) hH hgl (by simp; omega) flt_tot
      replace hsort := Lib.hid hsort
      replace hH := Lib.hid hH
      go_wp2_with fail
      refine hsort.out.mono ?_
      rintro e w2 ⟨rfl, n, os, hw2⟩
      have hH2 : Holds encStr w2 g 0 (sortL l).toArray := by
        rw [hw2]
        exact holds_sortWorld encStr w1 g 0 n l.toArray (sortL l).toArray os hgl hH.out (by simp [sortL_len])
      have hgl2 : g < w2.heap.size := by rw [hw2]; exact lt_sortWorld encStr w1 g 0 n _ os hgl
      have b2 : Below w.heap.size w w2 := by rw [hw2]; exact below_sortWorld b1 n g 0 _ os hg (Nat.le_refl _)
      have hcomp := Tryz.slices_Compact_string_arr g 0 cap1 (sortL l).toArray w2 hH2 (by simp [sortL_len]; omega) (by simp [sortL_len]; exact hcap)
      rw [compact_sortL] at hcomp
      rw [show (sortL l).toArray.size = l.length by simp [sortL_len]] at hcomp
      replace hcomp := Lib.hid hcomp
      replace b2 := Lib.hid b2
      replace hH2 := Lib.hid hH2
      clear hw2 hsort hH b1
      go_wp2_with fail
      refine hcomp.out.mono ?_
      rintro e w3 ⟨rfl, q, hw3⟩
      have hfl : (fset l).length ≤ l.length := setS_len flt l
      have hH3 : Holds encStr w3 g 0 (fset l).toArray := by
        rw [hw3]
        refine holds_left (b := List.replicate (l.length - (fset l).length) []) ?_
        exact holds_putRow encStr _ g 0 (sortL l).toArray _ hH2.out (by simp [sortL_len]; omega)
      have hgl3 : g < w3.heap.size := by rw [hw3, size_putRow]; exact hgl2
      have b3 : Below w.heap.size w w3 := by rw [hw3]; exact below_putRow b2.out q g 0 _ hg
      replace b3 := Lib.hid b3
      replace hH3 := Lib.hid hH3
      clear hw3
      go_wp2_with fail
      go_ret
      exact ⟨_, rfl, Lib.hid ⟨_, cap1, rfl, .inr ⟨g, rfl, hg, hgl3, by omega, hH3.out⟩⟩, b3⟩
end Go.Proofs.YtpkaoiadjffjiaaGreat
namespace Go.Proofs.YtpkaoiadjffjiaaGreat
open Go.RowKit

/-- e returns a text whose bytes are l; of what was there nothing has turned -/
def RetStr (l : List UInt8) (w : World) (e : Ending) (w' : World) : Prop := ∃ u : ByteArray, e = .returned (.string u) ∧ Hid (u.data.toList = l) ∧ Below w.heap.size w w'
theorem upperS_any (s : ByteArray) (hs : s.size ≤ maxLen) (w : World) : Calls Tryz.prog 68 #[.string s] w (RetStr (upL s.data.toList) w) :=
  (upper_any s hs w).mono fun _ _ ⟨he, hb⟩ => ⟨_, he, rfl, hb⟩
def CanonRet (s : List UInt8) (w : World) (e : Ending) (w' : World) : Prop := ∃ (u : ByteArray) (ok : Bool), e = .returned (.tuple #[.string u, .bool ok]) ∧ Hid (canonL s = (if ok then some u.data.toList else none) ∧ (ok = false → u = ⟨#[]⟩)) ∧ Hid (Below w.heap.size w w')
theorem canon_yes {s : List UInt8} {w w' : World} {u : ByteArray} (h : canonL s = some u.data.toList) (hb : Below w.heap.size w w') : CanonRet s w (.returned (.tuple #[.string u, .bool true])) w' := ⟨u, true, rfl, Lib.hid ⟨h, fun h => by cases h⟩, Lib.hid hb⟩
theorem canon_no {s : List UInt8} {w w' : World} (h : canonL s = none) (hb : Below w.heap.size w w') : CanonRet s w (.returned (.tuple #[.string ⟨#[]⟩, .bool false])) w' := ⟨⟨#[]⟩, false, rfl, Lib.hid ⟨h, fun _ => rfl⟩, Lib.hid hb⟩
def isSys (s : List UInt8) (j : Nat) : Bool := upL (sysL.getD j []) == upL s
theorem canon_sys (s : List UInt8) (k : Nat) (hk : k < 5) (h1 : ∀ j, j < k → isSys s j = false) (h2 : isSys s k = true) : canonL s = some (sysL.getD k []) := by
  have hf : sysL.find? (fun f => upL f == upL s) = some (sysL.getD k []) := by
    have e : ∀ (l : List (List UInt8)) (k : Nat), k < l.length → (∀ j, j < k → (upL (l.getD j []) == upL s) = false) → (upL (l.getD k []) == upL s) = true → l.find? (fun f => upL f == upL s) = some (l.getD k []) := by
      intro l
      induction l with
      | nil => intro k hk; simp at hk
      | cons x r ih =>
        intro k hk h1 h2
        match k, hk, h1, h2 with
        | 0, _, _, h2 => rw [List.find?_cons, show (upL x == upL s) = true from h2]; rfl
        | k + 1, hk, h1, h2 =>
          rw [List.find?_cons, show (upL x == upL s) = false from h1 0 (by omega)]
          exact ih k (by simpa using hk) (fun j hj => h1 (j + 1) (by omega)) h2
    exact e sysL k hk h1 h2
  rw [canonL, hf]
theorem canon_key (s : List UInt8) (h1 : ∀ j, j < 5 → isSys s j = false) : canonL s = if keyB s then some (lowL s) else none := by
  have hf : sysL.find? (fun f => upL f == upL s) = none := by
    rw [List.find?_eq_none]
    intro x hx
    obtain ⟨j, hj, rfl⟩ := List.getElem_of_mem hx
    have := h1 j hj
    rw [isSys, List.getD, List.getElem?_eq_getElem hj] at this
    simpa using this
  rw [canonL, hf]
theorem eqS_of {u v : ByteArray} {l m : List UInt8} (hu : Hid (u.data.toList = l)) (hv : Hid (v.data.toList = m)) : (u.toList == v.toList) = (l == m) := by rw [eq_str, hu.out, hv.out]
theorem run_index_sys (k : Nat) (hk : k < 5) (w : World) : (Instr.index 125 sysV (.int .i64 k)).run Tryz.prog w = .ok (.string (mkB (sysL.getD k []))) w := by
  have hu : ∀ w, (underlying 125).run Tryz.prog w = .ok (.array 5 9) w := run_underlying Tryz.underlying125
  have hz : ∀ w, (Go.sizeOf 9).run Tryz.prog w = .ok 1 w := Tryz.sizeOf9
  have ha : ∀ w, (isAgg 9).run Tryz.prog w = .ok false w := Tryz.isAgg9
  unfold Instr.index sysV
  match k, hk with
  | 0, _ => simp [asIntOf, hu, hz, part, ha, sysL, mkB]
  | 1, _ => simp [asIntOf, hu, hz, part, ha, sysL, mkB]
  | 2, _ => simp [asIntOf, hu, hz, part, ha, sysL, mkB]
  | 3, _ => simp [asIntOf, hu, hz, part, ha, sysL, mkB]
  | 4, _ => simp [asIntOf, hu, hz, part, ha, sysL, mkB]
theorem sys_le (k : Nat) (hk : k < 5) : (mkB (sysL.getD k [])).size ≤ maxLen := by
  have h : (mkB (sysL.getD k [])).size ≤ 9 := by
    match k, hk with
    | 0, _ => exact Nat.le_of_ble_eq_true rfl
    | 1, _ => exact Nat.le_of_ble_eq_true rfl
    | 2, _ => exact Nat.le_of_ble_eq_true rfl
    | 3, _ => exact Nat.le_of_ble_eq_true rfl
    | 4, _ => exact Nat.le_of_ble_eq_true rfl
  unfold maxLen; omega
set_option maxRecDepth 100000 in
set_option maxHeartbeats 2000000 in
theorem canon_any (s : ByteArray) (hs0 : s.size ≤ maxLen) (w : World) : Calls Tryz.prog 77 #[.string s] w (CanonRet s.data.toList w) := by
  have hs9 := Lib.hid hs0
  clear hs0
  go_enter Tryz.func77, Tryz.ntmps77
  go_wp2_with fail
  refine (system_any w).mono ?_
  rintro e w1 ⟨rfl, l1⟩
  have b1 := Lib.hid l1.below
  clear l1
  unfold sysV
  go_wp2_with fail
  go_loopw [7] (fun vk wr => ∃ k : Nat, vk = .int .i64 k ∧ k ≤ 5 ∧ Hid (∀ j, j < k → isSys s.data.toList j = false) ∧ Hid (Below w.heap.size w wr)) (fun vk _ => 5 - (intOf vk).toNat)
  case atStart => exact ⟨0, rfl, by omega, Lib.hid (fun j h => absurd h (Nat.not_lt_zero _)), b1⟩
  case round =>
    obtain ⟨k, rfl, hk, hno, hb⟩ := hrel
    have h5 : k = 0 ∨ k = 1 ∨ k = 2 ∨ k = 3 ∨ k = 4 ∨ k = 5 := by omega
    clear hk
    rcases h5 with rfl | rfl | rfl | rfl | rfl | rfl
    · have hix := run_index_sys 0 (by omega) wr
      unfold sysV at hix
      rw [show ((0 : Nat) : Int) = (0 : Int) from rfl] at hix ⊢
      go_wp2_with fail
      refine (upperS_any (mkB (sysL.getD 0 [])) (sys_le 0 (by omega)) wr).mono ?_
      rintro e w2 ⟨U1, rfl, hU1, hb1⟩
      go_wp2_with fail
      refine (upperS_any s hs9.out w2).mono ?_
      rintro e w3 ⟨U2, rfl, hU2, hb2⟩
      have hq := eqS_of hU1 hU2
      have hq' : (U1.toList == U2.toList) = isSys s.data.toList 0 := hq
      have hb3 := Lib.hid ((hb.out.trans (hb1.mono hb.out.size)).trans (hb2.mono (Nat.le_trans hb.out.size hb1.size)))
      clear hb1 hb2 hU1 hU2 hq
      cases h : isSys s.data.toList 0
      · rw [h] at hq'
        have hno' : Hid (∀ j, j < 0 + 1 → isSys s.data.toList j = false) := Lib.hid (fun j hj => by
          rcases Nat.lt_or_ge j 0 with h1 | h1
          · exact hno.out j h1
          · obtain rfl : j = 0 := by omega
            exact h)
        replace h := Lib.hid h
        go_wp2_with fail
        go_roundw
        case rel => exact ⟨0 + 1, by go_num, by omega, hno', hb3⟩
        case measure => simp [intOf]
      · rw [h] at hq'
        have hc := Lib.hid (canon_sys s.data.toList 0 (by omega) hno.out h)
        replace h := Lib.hid h
        go_wp2_with fail
        go_ret2
        exact canon_yes hc.out hb3.out
    · have hix := run_index_sys 1 (by omega) wr
      unfold sysV at hix
      rw [show ((1 : Nat) : Int) = (1 : Int) from rfl] at hix ⊢
      go_wp2_with fail
      refine (upperS_any (mkB (sysL.getD 1 [])) (sys_le 1 (by omega)) wr).mono ?_
      rintro e w2 ⟨U1, rfl, hU1, hb1⟩
      go_wp2_with fail
      refine (upperS_any s hs9.out w2).mono ?_
      rintro e w3 ⟨U2, rfl, hU2, hb2⟩
      have hq := eqS_of hU1 hU2
      have hq' : (U1.toList == U2.toList) = isSys s.data.toList 1 := hq
      have hb3 := Lib.hid ((hb.out.trans (hb1.mono hb.out.size)).trans (hb2.mono (Nat.le_trans hb.out.size hb1.size)))
      clear hb1 hb2 hU1 hU2 hq
      cases h : isSys s.data.toList 1
      · rw [h] at hq'
        have hno' : Hid (∀ j, j < 1 + 1 → isSys s.data.toList j = false) := Lib.hid (fun j hj => by
          rcases Nat.lt_or_ge j 1 with h1 | h1
          · exact hno.out j h1
          · obtain rfl : j = 1 := by omega
            exact h)
        replace h := Lib.hid h
        go_wp2_with fail
        go_roundw
        case rel => exact ⟨1 + 1, by go_num, by omega, hno', hb3⟩
        case measure => simp [intOf]
      · rw [h] at hq'
        have hc := Lib.hid (canon_sys s.data.toList 1 (by omega) hno.out h)
        replace h := Lib.hid h
        go_wp2_with fail
        go_ret2
        exact canon_yes hc.out hb3.out
    · have hix := run_index_sys 2 (by omega) wr
      unfold sysV at hix
      rw [show ((2 : Nat) : Int) = (2 : Int) from rfl] at hix ⊢
      go_wp2_with fail
      refine (upperS_any (mkB (sysL.getD 2 [])) (sys_le 2 (by omega)) wr).mono ?_
      rintro e w2 ⟨U1, rfl, hU1, hb1⟩
      go_wp2_with fail
      refine (upperS_any s hs9.out w2).mono ?_
      rintro e w3 ⟨U2, rfl, hU2, hb2⟩
      have hq := eqS_of hU1 hU2
      have hq' : (U1.toList == U2.toList) = isSys s.data.toList 2 := hq
      have hb3 := Lib.hid ((hb.out.trans (hb1.mono hb.out.size)).trans (hb2.mono (Nat.le_trans hb.out.size hb1.size)))
      clear hb1 hb2 hU1 hU2 hq
      cases h : isSys s.data.toList 2
      · rw [h] at hq'
        have hno' : Hid (∀ j, j < 2 + 1 → isSys s.data.toList j = false) := Lib.hid (fun j hj => by
          rcases Nat.lt_or_ge j 2 with h1 | h1
          · exact hno.out j h1
          · obtain rfl : j = 2 := by omega
            exact h)
        replace h := Lib.hid h
        go_wp2_with fail
        go_roundw
        case rel => exact ⟨2 + 1, by go_num, by omega, hno', hb3⟩
        case measure => simp [intOf]
      · rw [h] at hq'
        have hc := Lib.hid (canon_sys s.data.toList 2 (by omega) hno.out h)
        replace h := Lib.hid h
        go_wp2_with fail
        go_ret2
        exact canon_yes hc.out hb3.out
    · have hix := run_index_sys 3 (by omega) wr
      unfold sysV at hix
      rw [show ((3 : Nat) : Int) = (3 : Int) from rfl] at hix ⊢
      go_wp2_with fail
      refine (upperS_any (mkB (sysL.getD 3 [])) (sys_le 3 (by omega)) wr).mono ?_
      rintro e w2 ⟨U1, rfl, hU1, hb1⟩
      go_wp2_with fail
      refine (upperS_any s hs9.out w2).mono ?_
      rintro e w3 ⟨U2, rfl, hU2, hb2⟩
      have hq := eqS_of hU1 hU2
      have hq' : (U1.toList == U2.toList) = isSys s.data.toList 3 := hq
      have hb3 := Lib.hid ((hb.out.trans (hb1.mono hb.out.size)).trans (hb2.mono (Nat.le_trans hb.out.size hb1.size)))
      clear hb1 hb2 hU1 hU2 hq
      cases h : isSys s.data.toList 3
      · rw [h] at hq'
        have hno' : Hid (∀ j, j < 3 + 1 → isSys s.data.toList j = false) := Lib.hid (fun j hj => by
          rcases Nat.lt_or_ge j 3 with h1 | h1
          · exact hno.out j h1
          · obtain rfl : j = 3 := by omega
            exact h)
        replace h := Lib.hid h
        go_wp2_with fail
        go_roundw
        case rel => exact ⟨3 + 1, by go_num, by omega, hno', hb3⟩
        case measure => simp [intOf]
      · rw [h] at hq'
        have hc := Lib.hid (canon_sys s.data.toList 3 (by omega) hno.out h)
        replace h := Lib.hid h
        go_wp2_with fail
        go_ret2
        exact canon_yes hc.out hb3.out
    · have hix := run_index_sys 4 (by omega) wr
      unfold sysV at hix
      rw [show ((4 : Nat) : Int) = (4 : Int) from rfl] at hix ⊢
      go_wp2_with fail
      refine (upperS_any (mkB (sysL.getD 4 [])) (sys_le 4 (by omega)) wr).mono ?_
      rintro e w2 ⟨U1, rfl, hU1, hb1⟩
      go_wp2_with fail
      refine (upperS_any s hs9.out w2).mono ?_
      rintro e w3 ⟨U2, rfl, hU2, hb2⟩
      have hq := eqS_of hU1 hU2
      have hq' : (U1.toList == U2.toList) = isSys s.data.toList 4 := hq
      have hb3 := Lib.hid ((hb.out.trans (hb1.mono hb.out.size)).trans (hb2.mono (Nat.le_trans hb.out.size hb1.size)))
      clear hb1 hb2 hU1 hU2 hq
      cases h : isSys s.data.toList 4
      · rw [h] at hq'
        have hno' : Hid (∀ j, j < 4 + 1 → isSys s.data.toList j = false) := Lib.hid (fun j hj => by
          rcases Nat.lt_or_ge j 4 with h1 | h1
          · exact hno.out j h1
          · obtain rfl : j = 4 := by omega
            exact h)
        replace h := Lib.hid h
        go_wp2_with fail
        go_roundw
        case rel => exact ⟨4 + 1, by go_num, by omega, hno', hb3⟩
        case measure => simp [intOf]
      · rw [h] at hq'
        have hc := Lib.hid (canon_sys s.data.toList 4 (by omega) hno.out h)
        replace h := Lib.hid h
        go_wp2_with fail
        go_ret2
        exact canon_yes hc.out hb3.out
    · rw [show ((5 : Nat) : Int) = (5 : Int) from rfl]
      go_wp2_with fail
      refine (atom_any s hs9.out wr).mono ?_
      rintro e w2 ⟨rfl, rfl⟩
      have hck := Lib.hid (canon_key s.data.toList hno.out)
      cases ha : allS atomB s.data.toList
      · have hn : Hid (canonL s.data.toList = none) := Lib.hid (by rw [hck.out, keyB, ha]; rfl)
        clear hck
        replace ha := Lib.hid ha
        go_wp2_with fail
        go_ret2
        exact canon_no hn.out hb.out
      · by_cases hlen : s.size ≤ 32
        · have hy : Hid (canonL s.data.toList = some (lowL s.data.toList)) := Lib.hid (by rw [hck.out, keyB, ha, ← size_len, decide_eq_true hlen]; rfl)
          clear hck
          replace ha := Lib.hid ha
          go_wp2_with fail
          refine (small_any s hs9.out wr).mono ?_
          rintro e w3 ⟨rfl, hb3⟩
          have hb4 := Lib.hid (hb.out.trans (hb3.mono hb.out.size))
          clear hb3
          go_wp2_with fail
          go_ret2
          exact canon_yes hy.out hb4.out
        · have hn : Hid (canonL s.data.toList = none) := Lib.hid (by rw [hck.out, keyB, ha, ← size_len, decide_eq_false hlen]; rfl)
          clear hck
          replace ha := Lib.hid ha
          go_wp2_with fail
          go_ret2
          exact canon_no hn.out hb.out
end Go.Proofs.YtpkaoiadjffjiaaGreat
namespace Go.Proofs.YtpkaoiadjffjiaaGreat
open Go.RowKit

set_option maxHeartbeats 400000 in
theorem box1_any (c : Int) (w : World) (h0 : 0 ≤ c) (h1 : c < 256) :
    Calls Tryz.prog 65 #[.int .u8 c] w fun e w' => e = .returned (.bool (boxB c)) ∧ w = w' := by
  go_enter Tryz.func65, Tryz.ntmps65
  go_wp2_with (go_at_call 66; refine (indexByte_any _ _ (by omega) (by omega) _).mono ?_; rintro e w' ⟨r, rfl, hr, rfl⟩)
  all_goals (go_ret; first | (have hr := hr.out; exact ⟨ret_bool (by rw [hr]; unfold boxB; generalize inL c _ = b; cases b <;> simp <;> omega), rfl⟩) | exact ⟨ret_bool (by unfold boxB; generalize inL c _ = b; cases b <;> simp <;> omega), rfl⟩)
theorem asks_box : Asks Tryz.prog 65 boxB := ⟨fun _ _ => by go_simp, fun c w h0 h1 => box1_any c w h0 h1⟩

def inboxL : List UInt8 := [73, 78, 66, 79, 88]
def boxEnds (l : List UInt8) : Bool := !((l.headD 0).toNat == (32 : Int)) && !((l.getLastD 0).toNat == (32 : Int))
def boxOk (l : List UInt8) : Bool := allS boxB l && (decide (l.length ≤ 64) && boxEnds l)
def boxL (l : List UInt8) : List UInt8 := if boxOk l then (if upL l == inboxL then inboxL else l) else []
def RetBox (l : List UInt8) (w : World) (e : Ending) (w' : World) : Prop := ∃ u : ByteArray, e = .returned (.tuple #[.string u, .bool (boxOk l)]) ∧ Hid (u.data.toList = boxL l) ∧ Below w.heap.size w w'

theorem head_at (s : ByteArray) (h : 0 < s.size) : s.data.toList.headD 0 = s[0] := by
  have := drop_cons s 0 h
  rw [List.drop_zero] at this
  generalize s.data.toList.drop (0 + 1) = r at this
  rw [this]; rfl
theorem last_at (s : ByteArray) (h : 0 < s.size) : s.data.toList.getLastD 0 = s[s.size - 1]'(by omega) := by
  have h1 := take_snoc s (s.size - 1) (by omega)
  rw [show s.size - 1 + 1 = s.size from by omega, take_all] at h1
  generalize s.data.toList.take (s.size - 1) = r at h1
  rw [h1]; simp
theorem box_no {l : List UInt8} (h : boxOk l = false) : boxL l = [] := by rw [boxL, h]; rfl
theorem ret_box {l : List UInt8} {s : ByteArray} {b : Bool} (h : b = boxOk l) : Ending.returned (.tuple #[.string s, .bool b]) = .returned (.tuple #[.string s, .bool (boxOk l)]) := by rw [h]
theorem allS_pos {p : Int → Bool} {s : ByteArray} (h : allS p s.data.toList = true) : 0 < s.size := by
  rcases Nat.eq_zero_or_pos s.size with h' | h'
  · rw [size_len] at h'; rw [List.eq_nil_of_length_eq_zero h'] at h; simp [allS] at h
  · exact h'
theorem box_bad_len (s : ByteArray) (h : ¬ s.size ≤ 64) : boxOk s.data.toList = false := by rw [boxOk, ← size_len, decide_eq_false h]; simp
theorem box_bad_0 (s : ByteArray) (h : 0 < s.size) (h0 : ((s[0].toNat : Int) == 32) = true) : boxOk s.data.toList = false := by rw [boxOk, boxEnds, head_at s h, h0]; simp
theorem box_bad_1 (s : ByteArray) (h : 0 < s.size) (h1 : (((s[s.size - 1]'(by omega)).toNat : Int) == 32) = true) : boxOk s.data.toList = false := by rw [boxOk, boxEnds, last_at s h, h1]; simp
theorem box_good (s : ByteArray) (h : 0 < s.size) (ha : allS boxB s.data.toList = true) (hsz : s.size ≤ 64) (h0 : ((s[0].toNat : Int) == 32) = false) (h1 : (((s[s.size - 1]'(by omega)).toNat : Int) == 32) = false) : boxOk s.data.toList = true := by
  rw [boxOk, boxEnds, head_at s h, last_at s h, h0, h1, ha, ← size_len, decide_eq_true hsz]; rfl
theorem box_inbox {s u : ByteArray} (hk : boxOk s.data.toList = true) (hu : u.data.toList = upL s.data.toList) (hn : (u.toList == [73, 78, 66, 79, 88]) = true) : (⟨#[73, 78, 66, 79, 88]⟩ : ByteArray).data.toList = boxL s.data.toList := by
  rw [ByteArray.toList_eq, hu] at hn
  rw [boxL, hk, if_pos rfl, if_pos (show (upL s.data.toList == inboxL) = true from hn)]; rfl
theorem box_same {s u : ByteArray} (hk : boxOk s.data.toList = true) (hu : u.data.toList = upL s.data.toList) (hn : (u.toList == [73, 78, 66, 79, 88]) = false) : s.data.toList = boxL s.data.toList := by
  rw [ByteArray.toList_eq, hu] at hn
  rw [boxL, hk, if_pos rfl, if_neg (by rw [inboxL, hn]; simp)]
set_option maxHeartbeats 2000000 in
theorem box_any (s : ByteArray) (hs : s.size ≤ maxLen) (w : World) :
    Calls Tryz.prog 56 #[.string s] w (RetBox s.data.toList w) := by
  unfold maxLen at hs
  cases ha : allS boxB s.data.toList
  case' false => have hf : Hid (boxOk s.data.toList = false) := by show _ = _; rw [boxOk, ha]; rfl
  case' true => have hpos := allS_pos ha
  case' true => by_cases hsz : s.size ≤ 64
  case' neg => have hf := Lib.hid (box_bad_len s hsz)
  case' pos => cases h0 : ((s[0].toNat : Int) == 32)
  case' pos.true => have hf := Lib.hid (box_bad_0 s hpos h0)
  case' pos.false => cases h1 : (((s[s.size - 1]'(by omega)).toNat : Int) == 32)
  case' pos.false.true => have hf := Lib.hid (box_bad_1 s hpos h1)
  case' pos.false.false =>
    have hg := Lib.hid (box_good s hpos ha hsz h0 h1)
    go_enter Tryz.func56, Tryz.ntmps56
    go_wp2_with fail
    refine (all_any _ _ asks_box s (by unfold maxLen; omega) w).mono ?_
    rintro e w' ⟨rfl, rfl⟩
    rw [ha]
    go_wp2_with fail
    refine (upperS_any s (by unfold maxLen; omega) w).mono ?_
    rintro e w1 ⟨u, rfl, hu, hbw⟩
    cases hn : (u.toList == [73, 78, 66, 79, 88])
    · go_wp2_with fail
      go_ret2
      exact ⟨_, ret_box hg.out.symm, box_same hg.out hu.out hn, hbw⟩
    · go_wp2_with fail
      go_ret2
      exact ⟨_, ret_box hg.out.symm, box_inbox hg.out hu.out hn, hbw⟩
  all_goals
    go_enter Tryz.func56, Tryz.ntmps56
    go_wp2_with fail
    refine (all_any _ _ asks_box s (by unfold maxLen; omega) w).mono ?_
    rintro e w' ⟨rfl, rfl⟩
    rw [ha]
    go_wp2_with fail
    go_ret2
    exact ⟨⟨#[]⟩, ret_box hf.out.symm, (box_no hf.out).symm, Below.refl _ _⟩

end Go.Proofs.YtpkaoiadjffjiaaGreat
