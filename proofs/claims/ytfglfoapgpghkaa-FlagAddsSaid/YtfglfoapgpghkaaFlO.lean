/- The law FlagChanges: walked. -/
import Derived.Test.YtfglfoapgpghkaaFlN
namespace Go.Proofs.Ytfglfoapgpghkaa
open Go.RowKit

theorem chSet_len (l : List (List UInt8)) (how : Int) (by_ : List (List UInt8)) : (chSet l how by_).length ≤ 16 := by
  rw [chSet]
  split
  · split
    · simp
    · omega
  · simp
set_option maxRecDepth 100000 in
set_option maxHeartbeats 2000000 in
theorem flagChanges_any (v : Value) (l : List (List UInt8)) (how : Int) (u : Value) (by_ : List (List UInt8)) (_hw : (Lit.int .i64 how).wf = true) (w : World) (hr : Rd w v l.length (l.map encStr)) (hl : (l.length + 2) * 16 ≤ 140737488355328) (hs : Sized l) (hu : Rd w u by_.length (by_.map encStr)) (hul : (by_.length + 2) * 16 ≤ 140737488355328) (hus : Sized by_) :
    Calls Try.prog 6 #[v, .int .i64 how, u] w fun e w' => e = .returned (.bool true) ∧ Below w.heap.size w w' := by
  have hr0 := Lib.hid hr
  have hu0 := Lib.hid hu
  have one : ∀ l : List (List UInt8), ∀ u ∈ l.map encStr, u.oneCell' = true := fun l u hu => by
    obtain ⟨x, _, rfl⟩ := List.mem_map.1 hu; rfl
  replace one := Lib.hid one
  replace hs := Lib.hid hs
  replace hus := Lib.hid hus
  clear hr hu _hw
  go_enter Try.func6, Try.ntmps6
  go_wp2_with (at_builtin; refine wpList_append_rd rfl (.tmp 13) (.tmp 14) 22 rfl w.heap.size 9 _ 1 16 Try.underlying22 str_info rfl (by decide) _ v 0 l.length [] (l.map encStr) rfl rfl (owns_emptyT w w.heap.size (Nat.le_refl _)) (hr0.out.below (Lays.alloc _ _).below) (by simp) (one.out l) (by unfold maxLen; omega) (by omega) (by simp) ?_)
  intro v1 w1 ho1 hg1 _
  have b1 : Hid (Below w.heap.size w w1) := Lib.hid (((Lays.alloc w _).below).grown hg1 (by simp) (fun k hk => by simp [Value.ownBlock] at hk; omega))
  have own1 : Hid (OwnT w1 w.heap.size v1 l) := Lib.hid ho1
  have z1 := b1.out.size
  clear ho1 hg1
  go_wp2_with (at_builtin; refine wpList_append_rd rfl (.tmp 16) (.tmp 17) 22 rfl w1.heap.size 9 _ 1 16 Try.underlying22 str_info rfl (by decide) _ u 0 by_.length [] (by_.map encStr) rfl rfl (owns_emptyT w1 w1.heap.size (Nat.le_refl _)) (hu0.out.below (b1.out.trans ((Lays.alloc _ _).below.mono b1.out.size))) (by simp) (one.out by_) (by unfold maxLen; omega) (by omega) (by simp) ?_)
  intro v2 w2 ho2 hg2 _
  have b2 : Hid (Below w1.heap.size w1 w2) := Lib.hid (((Lays.alloc w1 _).below).grown hg2 (by simp) (fun k hk => by simp [Value.ownBlock] at hk; omega))
  have own2 : Hid (OwnT w2 w1.heap.size v2 by_) := Lib.hid ho2
  have own12 := Lib.hid (own1.out.below b2.out)
  have bb := Lib.hid (b1.out.trans (b2.out.mono z1))
  clear ho2 hg2 one own1 b1 b2 z1
  go_wp2_with fail
  refine (change_any v1 v2 l by_ how w2 own12.out.rd own2.out.rd hl hul hs.out hus.out).mono ?_
  rintro e w3 ⟨v3, rfl, r3, b3⟩
  have b3' := Lib.hid (bb.out.trans (b3.out.mono bb.out.size))
  have o1 := Lib.hid (own12.out.below b3.out)
  have o2 := Lib.hid (own2.out.below b3.out)
  clear b3 bb own12 own2
  go_wp2_with fail
  refine (refChange_any v u l by_ how w3 (hr0.out.below b3'.out) (hu0.out.below b3'.out) hl hul hs.out hus.out).mono ?_
  rintro e w4 ⟨v4, rfl, r4, b4⟩
  have b4' := Lib.hid (b3'.out.trans (b4.out.mono b3'.out.size))
  have p1 := Lib.hid (o1.out.below b4.out)
  have p2 := Lib.hid (o2.out.below b4.out)
  have q3 := Lib.hid (r3.out.below b4.out)
  have hcl := chSet_len l how by_
  generalize chSet l how by_ = S at r3 r4 q3 hcl
  generalize chCode l how by_ = C
  have hCC : ((C : Int) == (C : Int)) = true := by simp
  clear b4 b3' o1 o2 r3
  go_wp2_with fail
  refine (alive_any w4).mono ?_
  rintro e w5 ⟨rfl, b5⟩
  have b5' := Lib.hid (b4'.out.trans (b5.mono b4'.out.size))
  have s1 := Lib.hid (p1.out.below b5)
  have s2 := Lib.hid (p2.out.below b5)
  have s3 := Lib.hid (q3.out.below b5)
  have s4 := Lib.hid (r4.out.below b5)
  clear b5 b4' p1 p2 q3 r4
  go_wp2_with fail
  refine (same_any v3 v4 S S w5 s3.out s4.out (by omega)).mono ?_
  rintro e w6 ⟨rfl, b6⟩
  rw [show decide (S = S) = true from by simp]
  have b6' := Lib.hid (b5'.out.trans (b6.mono b5'.out.size))
  have t1 := Lib.hid (s1.out.below b6)
  have t2 := Lib.hid (s2.out.below b6)
  clear b6 b5' s1 s2 s3 s4
  go_wp2_with fail
  refine (same_any v1 v l l w6 t1.out.rd (hr0.out.below b6'.out) (by omega)).mono ?_
  rintro e w7 ⟨rfl, b7⟩
  rw [show decide (l = l) = true from by simp]
  have b7' := Lib.hid (b6'.out.trans (b7.mono b6'.out.size))
  have k2 := Lib.hid (t2.out.below b7)
  clear b7 b6' t1 t2
  go_wp2_with fail
  refine (same_any v2 u by_ by_ w7 k2.out.rd (hu0.out.below b7'.out) (by omega)).mono ?_
  rintro e w8 ⟨rfl, b8⟩
  rw [show decide (by_ = by_) = true from by simp]
  have b8' := Lib.hid (b7'.out.trans (b8.mono b7'.out.size))
  clear b8 b7' k2
  go_wp2_with fail
  go_ret
  exact ⟨rfl, b8'.out⟩
end Go.Proofs.Ytfglfoapgpghkaa
