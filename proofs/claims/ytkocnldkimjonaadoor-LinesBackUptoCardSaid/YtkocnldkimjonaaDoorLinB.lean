/- A feeder in memory, and what looks at it: Waits, Size, Deaf, ends. -/
import Derived.Test.YtkocnldkimjonaaDoorLinA
import Derived.Deep.QuietTactic
import Derived.BigQuiet
namespace Go.Proofs.YtkocnldkimjonaaDoor
open Go.RowKit

/-- how a feeder stands: the text so far, where its last part begins, how many bytes of a literal are awaited, is it deaf -/
structure FS where
  text : List UInt8
  part : Nat
  left : Nat
  deaf : Bool
/-- the feeder in block b stands so; its text is the slice (a, c) -/
structure FeedAt (B : Nat) (w : World) (b : Nat) (a : Option Addr) (c : Nat) (st : FS) : Prop where
  low : B ≤ b
  cells : w.heap[b]? = some (.cells #[.slice a st.text.length c, .int .i64 st.part, .int .i64 st.left, .bool st.deaf] 50 (0, 0))
  own : OwnBytes w B 5 (.slice a st.text.length c) st.text
  apart : ∀ d, a = some d → d.block ≠ b
theorem FeedAt.cell {B : Nat} {w : World} {b : Nat} {a : Option Addr} {c : Nat} {st : FS} (h : FeedAt B w b a c st) :
    w.cell? ⟨b, 0, none⟩ = some (.slice a st.text.length c) ∧ w.cell? ⟨b, 1, none⟩ = some (.int .i64 st.part) ∧ w.cell? ⟨b, 2, none⟩ = some (.int .i64 st.left) ∧ w.cell? ⟨b, 3, none⟩ = some (.bool st.deaf) := by
  have hc := h.cells
  refine ⟨?_, ?_, ?_, ?_⟩ <;> (simp only [World.cell?, hc]; rfl)
theorem FeedAt.free {B : Nat} {w : World} {b : Nat} {a : Option Addr} {c : Nat} {st : FS} (h : FeedAt B w b a c st) (j : Nat) : w.frozen? ⟨b, j, none⟩ = false := by
  have hc := h.cells
  simp only [World.frozen?, hc]; simp
set_option maxHeartbeats 400000 in
theorem waits_any (B : Nat) (w : World) (b : Nat) (a : Option Addr) (c : Nat) (st : FS) (h : FeedAt B w b a c st) :
    Calls Tryd.prog 14 #[.pointer (some ⟨b, 0, none⟩)] w fun e w' => e = .returned (.int .i64 st.left) ∧ w = w' := by
  obtain ⟨c0, c1, c2, c3⟩ := h.cell
  go_enter Tryd.func14, Tryd.ntmps14
  go_wp2_with fail
  go_ret
  exact ⟨rfl, rfl⟩
set_option maxHeartbeats 400000 in
theorem size_any (B : Nat) (w : World) (b : Nat) (a : Option Addr) (c : Nat) (st : FS) (h : FeedAt B w b a c st) :
    Calls Tryd.prog 15 #[.pointer (some ⟨b, 0, none⟩)] w fun e w' => e = .returned (.int .i64 st.text.length) ∧ w = w' := by
  obtain ⟨c0, c1, c2, c3⟩ := h.cell
  go_enter Tryd.func15, Tryd.ntmps15
  go_wp2_with fail
  go_ret
  exact ⟨rfl, rfl⟩
set_option maxHeartbeats 400000 in
theorem deaf_any (B : Nat) (w : World) (b : Nat) (a : Option Addr) (c : Nat) (st : FS) (h : FeedAt B w b a c st) :
    Calls Tryd.prog 16 #[.pointer (some ⟨b, 0, none⟩)] w fun e w' => e = .returned (.bool st.deaf) ∧ w = w' := by
  obtain ⟨c0, c1, c2, c3⟩ := h.cell
  go_enter Tryd.func16, Tryd.ntmps16
  go_wp2_with fail
  go_ret
  exact ⟨rfl, rfl⟩
theorem hasEnd_any (s : ByteArray) (hs : s.size ≤ 140737488351232) (w : World) :
    Calls Tryd.prog 23 #[.string s, .string ⟨#[13, 10]⟩] w fun e w' => e = .returned (.bool (Lib.hasSuffix s.data.toList [13, 10])) ∧ w' = w :=
  Tryd.strings_HasSuffix s ⟨#[13, 10]⟩ w (by omega)
def endsL (st : FS) : Bool := Lib.hasSuffix (st.text.drop st.part) [13, 10]
/-- 'string(b[p:q])' of an owned row -/
theorem OwnBytes.back_at {P : Program} {w w2 : World} {B : Nat} {e : TypeId} {g c c' : Nat} {l : List UInt8} (h : OwnBytes w B e (.slice (some ⟨g, 0, none⟩) l.length c) l) (hw : w2.heap = w.heap) (p n : Nat) (hp : p + n ≤ l.length) (src dst : TypeId) (hs : P.underlying src = some (.slice e)) (he : P.underlying e = some (.int .u8)) (hd : P.underlying dst = some .string) :
    (convert src dst (.slice (some ⟨g, p, none⟩) n c')).run P w2 = .ok (.string ⟨((l.drop p).take n).toArray⟩) w2 := by
  have hl : ((l.drop p).take n).length = n := by simp; omega
  have := run_convert_bytes_back (P := P) w2 src dst e ⟨g, p, none⟩ c' ((l.drop p).take n) hs he hd (fun j hj => by
    have hj' : p + j < l.length := by omega
    have hc := World.ownsRow.cells h (g := g) rfl (p + j) (.int .u8 l[p + j].toNat) (by simp [Lib.byteCells, hj'])
    rw [Addr.add_lit]
    have : ((l.drop p).take n)[j] = l[p + j] := by simp
    rw [this]
    simp only [Addr.add_lit, Nat.zero_add, World.cell?, hw] at hc ⊢
    exact hc)
  rwa [hl] at this
theorem FeedAt.cap_le {B : Nat} {w : World} {b c : Nat} {a : Option Addr} {st : FS} (h : FeedAt B w b a c st) : st.text.length ≤ c := by
  rcases h.own.2 with ⟨hv, hn⟩ | ⟨g, cap, cur, hv, _, _, hle, _⟩
  · omega
  · have := (Value.slice.inj hv).2.2
    omega
set_option maxHeartbeats 400000 in
theorem ends_any (B : Nat) (w : World) (b g c : Nat) (st : FS) (h : FeedAt B w b (some ⟨g, 0, none⟩) c st) (hp : st.part < st.text.length) (hl : st.text.length ≤ 140737488351232) :
    Calls Tryd.prog 20 #[.pointer (some ⟨b, 0, none⟩)] w fun e w' => e = .returned (.bool (endsL st)) ∧ ∃ n, w' = w.drewN n := by
  obtain ⟨c0, c1, c2, c3⟩ := h.cell
  have hcap := h.cap_le
  have hne : ¬ c = st.part := by omega
  have hple : st.part ≤ st.text.length := by omega
  have cv : ∀ n, (convert 48 9 (.slice (some ⟨g, st.part, none⟩) (st.text.length - st.part) (c - st.part))).run Tryd.prog (w.drewN n) = .ok (.string ⟨(st.text.drop st.part).toArray⟩) (w.drewN n) := fun n => by
    have := h.own.back_at (P := Tryd.prog) (w2 := w.drewN n) (c' := c - st.part) (by simp) st.part (st.text.length - st.part) (by omega) 48 9 Tryd.underlying48 Tryd.underlying5 Tryd.underlying9
    rw [List.take_of_length_le (by simp)] at this
    exact this
  go_enter Tryd.func20, Tryd.ntmps20
  go_wp2_with fail
  go_quiet (first | (go_at_call 23; refine Calls.quiet_of_same (hasEnd_any _ ?_ _); rw [size_mk, List.length_drop]; omega))
  go_wp2_with fail
  go_ret
  exact ⟨rfl, _, rfl⟩
end Go.Proofs.YtkocnldkimjonaaDoor
