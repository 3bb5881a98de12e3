/- Contracts of the library, laid at this seat's translation by the kit's lay-shelf.mjs and lay-plain.mjs; those that are not used are left out. -/
import Derived.Shelf.Strings.Builder1
import Derived.Shelf.Strings.Builder2
import Derived.Shelf.Strings.OnBuilder
import Derived.Shelf.Small.Bits
import Derived.Shelf.Strconv.Itoa0
import Derived.Shelf.Strconv.Itoa1
import Derived.Shelf.LaysM
import Derived.Shelf.Strconv.Itoa2
import Derived.Shelf.Strconv.Itoa3
import Derived.Shelf.Strconv.Clone
import Derived.Shelf.Strconv.SyntaxError
import Derived.Shelf.LaysC
import Derived.Shelf.Strconv.ToError
import Derived.Shelf.Strconv.Lower
import Derived.Shelf.Strconv.RangeError
import Derived.Shelf.Strconv.ToErrorRange
import Derived.Shelf.Strconv.ParseUintEmpty
import Derived.Shelf.Strings.Search2
import Derived.Shelf.Strings.Search3
import Derived.Shelf.Strings.Cut
import Derived.Shelf.Strings.Count
import Derived.Shelf.Strings.Shaped
import Derived.Shelf.Strings.Split
import Derived.Shelf.Strings.SplitShaped
import Derived.Shelf.Unicode.DecodeSlow
import Derived.Test.YtifpmcfadmmkiaaGreatDoorProg
namespace Go.Proofs
open Go.Shelf
def Tryz.lays156_ren : Go.Shelf.Ren := ⟨fun | 156 => 21 | 165 => 33 | 166 => 34 | 169 => 35 | 240 => 50 | 241 => 51 | 276 => 65 | 277 => 66 | n => n, fun | 31 => 28 | 9 => 9 | 3 => 3 | 4 => 4 | 0 => 0 | 20 => 20 | 72 => 63 | 76 => 65 | 70 => 60 | 37 => 61 | 75 => 57 | 127 => 79 | 164 => 91 | 5 => 5 | 80 => 67 | n => n, fun | n => n⟩
theorem Tryz.lays156 : Go.Proofs.Lays.n156 Tryz.prog Tryz.lays156_ren := {
  mixed := by kernel_rfl
  f156 := Tryz.func21.trans (congrArg some (by kernel_rfl))
  f165 := Tryz.func33.trans (congrArg some (by kernel_rfl))
  f166 := Tryz.func34.trans (congrArg some (by kernel_rfl))
  f169 := Tryz.func35.trans (congrArg some (by kernel_rfl))
  f240 := Tryz.func50.trans (congrArg some (by kernel_rfl))
  f241 := Tryz.func51.trans (congrArg some (by kernel_rfl))
  f276 := Tryz.func65.trans (congrArg some (by kernel_rfl))
  f277 := Tryz.func66.trans (congrArg some (by kernel_rfl))
  t0 := Tryz.underlying0
  a0 := Tryz.isAgg0
  z0 := Tryz.sizeOf0
  v0 := Tryz.zeroValue0
  t3 := Tryz.underlying3
  a3 := Tryz.isAgg3
  z3 := Tryz.sizeOf3
  v3 := Tryz.zeroValue3
  t4 := Tryz.underlying4
  a4 := Tryz.isAgg4
  z4 := Tryz.sizeOf4
  v4 := Tryz.zeroValue4
  t9 := Tryz.underlying9
  a9 := Tryz.isAgg9
  z9 := Tryz.sizeOf9
  v9 := Tryz.zeroValue9
  t20 := Tryz.underlying20
  a20 := Tryz.isAgg20
  z20 := Tryz.sizeOf20
  v20 := Tryz.zeroValue20
  t31 := Tryz.underlying28
  a31 := Tryz.isAgg28
  z31 := Tryz.sizeOf28
  v31 := Tryz.zeroValue28
  t37 := Tryz.underlying61
  a37 := Tryz.isAgg61
  z37 := Tryz.sizeOf61
  v37 := Tryz.zeroValue61
  t70 := Tryz.underlying60
  a70 := Tryz.isAgg60
  z70 := Tryz.sizeOf60
  v70 := Tryz.zeroValue60
  t72 := Tryz.underlying63
  a72 := Tryz.isAgg63
  z72 := Tryz.sizeOf63
  v72 := Tryz.zeroValue63
  t75 := Tryz.underlying57
  a75 := Tryz.isAgg57
  z75 := Tryz.sizeOf57
  v75 := Tryz.zeroValue57
  t76 := Tryz.underlying65
  a76 := Tryz.isAgg65
  z76 := Tryz.sizeOf65
  v76 := Tryz.zeroValue65
  t127 := Tryz.underlying79
  a127 := Tryz.isAgg79
  z127 := Tryz.sizeOf79
  v127 := Tryz.zeroValue79
  t164 := Tryz.underlying91
  a164 := Tryz.isAgg91
  z164 := Tryz.sizeOf91
  v164 := Tryz.zeroValue91 }
theorem Tryz.Builder_Extra_156 : Builder.Extra Tryz.prog Tryz.lays156_ren := {
  sizeBuilder := by kernel_rfl
  liesBuilder := by kernel_rfl
  t5 := Tryz.underlying5
  a5 := Tryz.isAgg5
  z5 := Tryz.sizeOf5
  v5 := Tryz.zeroValue5
  infoByte := by kernel_rfl
  cellsByte := by kernel_rfl
  sizeByte := by kernel_rfl
  neB5 := by decide }
open Go.RowKit in
theorem Tryz.strings_Join_none (a : Option Addr) (c : Nat) (sep : ByteArray) (w : World) :
    Calls Tryz.prog 21 #[.slice a 0 c, .string sep] w fun e w' => e = .returned (.string ⟨#[]⟩) ∧ w' = w := Any.strings_Join_none Tryz.lays156 Tryz.Builder_Extra_156 a c sep w
open Go.RowKit in
theorem Tryz.strings_Join (bk o c : Nat) (xs : List ByteArray) (sep : ByteArray) (w : World) (hcells : ∀ (j : Nat) x, xs[j]? = some x → w.cell? ⟨bk, o + j, none⟩ = some (.string x)) (hbk : bk < w.heap.size) (hN : xs.length ≤ 140737488355328) (hcap : xs.length ≤ c) (hlen : (Lib.join (xs.map (·.data.toList)) sep.data.toList).length ≤ 140737488355328) :
    Calls Tryz.prog 21 #[.slice (some ⟨bk, o, none⟩) xs.length c, .string sep] w fun e w' => e = .returned (.string ⟨(Lib.join (xs.map (·.data.toList)) sep.data.toList).toArray⟩) ∧ Below w.heap.size w w' := Any.strings_Join Tryz.lays156 Tryz.Builder_Extra_156 bk o c xs sep w hcells hbk hN hcap hlen
def Tryz.lays283_ren : Go.Shelf.Ren := ⟨fun | 283 => 81 | n => n, fun | 3 => 3 | 9 => 9 | 4 => 4 | n => n, fun | n => n⟩
theorem Tryz.lays283 : Go.Proofs.Lays.n283 Tryz.prog Tryz.lays283_ren := {
  mixed := by kernel_rfl
  f283 := Tryz.func81.trans (congrArg some (by kernel_rfl))
  t3 := Tryz.underlying3
  a3 := Tryz.isAgg3
  z3 := Tryz.sizeOf3
  v3 := Tryz.zeroValue3
  t4 := Tryz.underlying4
  a4 := Tryz.isAgg4
  z4 := Tryz.sizeOf4
  v4 := Tryz.zeroValue4
  t9 := Tryz.underlying9
  a9 := Tryz.isAgg9
  z9 := Tryz.sizeOf9
  v9 := Tryz.zeroValue9 }
open Go.Lib in
theorem Tryz.internal_strconv_small (i : Nat) (h : i < 100) (w : World) :
    Calls Tryz.prog 81 #[.int .i64 i] w fun e w' => e = .returned (.string ⟨(Lib.decDigits i).toArray⟩) ∧ w' = w := Any.internal_strconv_small Tryz.lays283 i h w
def Tryz.laysM284_ren : Go.Shelf.Ren := ⟨fun | 284 => 82 | 129 => 77 | 317 => 92 | 318 => 93 | n => n, fun | 53 => 32 | 3 => 3 | 212 => 128 | 0 => 0 | 4 => 4 | 46 => 76 | 5 => 5 | 9 => 9 | n => n, fun | 17 => 5 | n => n⟩
theorem Tryz.laysM284 : Go.Proofs.LaysM.n284 Tryz.prog Tryz.laysM284_ren := {
  mixed := by kernel_rfl
  f129 := Tryz.func77.trans (congrArg some (by kernel_rfl))
  f284 := Tryz.func82.trans (congrArg some (by kernel_rfl))
  f317 := Tryz.func92.trans (congrArg some (by kernel_rfl))
  f318 := Tryz.func93.trans (congrArg some (by kernel_rfl))
  t0 := Tryz.underlying0
  a0 := Tryz.isAgg0
  z0 := Tryz.sizeOf0
  v0 := Tryz.zeroValue0
  t3 := Tryz.underlying3
  a3 := Tryz.isAgg3
  z3 := Tryz.sizeOf3
  v3 := Tryz.zeroValue3
  t4 := Tryz.underlying4
  a4 := Tryz.isAgg4
  z4 := Tryz.sizeOf4
  v4 := Tryz.zeroValue4
  t5 := Tryz.underlying5
  a5 := Tryz.isAgg5
  z5 := Tryz.sizeOf5
  v5 := Tryz.zeroValue5
  t9 := Tryz.underlying9
  a9 := Tryz.isAgg9
  z9 := Tryz.sizeOf9
  v9 := Tryz.zeroValue9
  t46 := Tryz.underlying76
  a46 := Tryz.isAgg76
  z46 := Tryz.sizeOf76
  v46 := Tryz.zeroValue76
  t53 := Tryz.underlying32
  a53 := Tryz.isAgg32
  z53 := Tryz.sizeOf32
  v53 := Tryz.zeroValue32
  t212 := Tryz.underlying128
  a212 := Tryz.isAgg128
  z212 := Tryz.sizeOf128
  v212 := Tryz.zeroValue128
  g17 := by kernel_rfl
  i0 := by kernel_rfl
  i3 := by kernel_rfl
  i4 := by kernel_rfl
  i5 := by kernel_rfl
  i9 := by kernel_rfl
  i46 := by kernel_rfl
  i53 := by kernel_rfl
  i212 := by kernel_rfl
  m17 := by kernel_rfl }
open Go.Lib in
theorem Tryz.internal_strconv_numDigits (u : Nat) (h1 : 1 ≤ u) (h2 : u < 18446744073709551616) (w : World) (htab : Lib.TabIs Tryz.prog w "internal/strconv.uint64pow10" .u64 Lib.pow10Tab) :
    Calls Tryz.prog 82 #[.int .u64 u] w fun e w' => e = .returned (.int .i64 (Lib.nDigits u)) ∧ w' = w := Any.internal_strconv_numDigits Tryz.laysM284 u h1 h2 w htab
def Tryz.lays285_ren : Go.Shelf.Ren := ⟨fun | 285 => 83 | n => n, fun | 37 => 61 | 53 => 32 | 3 => 3 | 4 => 4 | 51 => 83 | 9 => 9 | 5 => 5 | 0 => 0 | n => n, fun | n => n⟩
theorem Tryz.lays285 : Go.Proofs.Lays.n285 Tryz.prog Tryz.lays285_ren := {
  mixed := by kernel_rfl
  f285 := Tryz.func83.trans (congrArg some (by kernel_rfl))
  t0 := Tryz.underlying0
  a0 := Tryz.isAgg0
  z0 := Tryz.sizeOf0
  v0 := Tryz.zeroValue0
  t3 := Tryz.underlying3
  a3 := Tryz.isAgg3
  z3 := Tryz.sizeOf3
  v3 := Tryz.zeroValue3
  t4 := Tryz.underlying4
  a4 := Tryz.isAgg4
  z4 := Tryz.sizeOf4
  v4 := Tryz.zeroValue4
  t5 := Tryz.underlying5
  a5 := Tryz.isAgg5
  z5 := Tryz.sizeOf5
  v5 := Tryz.zeroValue5
  t9 := Tryz.underlying9
  a9 := Tryz.isAgg9
  z9 := Tryz.sizeOf9
  v9 := Tryz.zeroValue9
  t37 := Tryz.underlying61
  a37 := Tryz.isAgg61
  z37 := Tryz.sizeOf61
  v37 := Tryz.zeroValue61
  t51 := Tryz.underlying83
  a51 := Tryz.isAgg83
  z51 := Tryz.sizeOf83
  v51 := Tryz.zeroValue83
  t53 := Tryz.underlying32
  a53 := Tryz.isAgg32
  z53 := Tryz.sizeOf32
  v53 := Tryz.zeroValue32 }
open Go.RowKit Go.Sort Go.Lib in
theorem Tryz.internal_strconv_formatBase10 (blk off cap : Nat) (u : Nat) (d : Array UInt8) (w : World) (hH : Holds (fun (b : UInt8) => Value.int .u8 (b.toNat : Int)) w blk off d) (hu : u < 10 ^ d.size) (hu64 : u < 18446744073709551616) (hsz : d.size < 4611686018427387904) :
    Calls Tryz.prog 83 #[.slice (some ⟨blk, off, none⟩) d.size cap, .int .u64 u] w fun e w' =>
      e = .returned (.tuple #[]) ∧ ∃ (n v' : Nat) (dk : Array UInt8), w' = (putRow (fun (b : UInt8) => Value.int .u8 (b.toNat : Int)) w blk off dk).drewN n ∧ FmtInv d.size u 0 v' dk := Any.internal_strconv_formatBase10 Tryz.lays285 blk off cap u d w hH hu hu64 hsz
def Tryz.lays145_ren : Go.Shelf.Ren := ⟨fun | 145 => 9 | 220 => 17 | 219 => 30 | 217 => 43 | 225 => 44 | 224 => 45 | 267 => 46 | 266 => 56 | 314 => 57 | n => n, fun | 9 => 9 | 4 => 4 | 59 => 30 | 3 => 3 | 5 => 5 | 46 => 76 | 146 => 84 | 51 => 83 | n => n, fun | 1 => 0 | n => n⟩
theorem Tryz.lays145 : Go.Proofs.Lays.n145 Tryz.prog Tryz.lays145_ren := {
  mixed := by kernel_rfl
  f145 := Tryz.func9.trans (congrArg some (by kernel_rfl))
  f217 := Tryz.func43.trans (congrArg some (by kernel_rfl))
  f219 := Tryz.func30.trans (congrArg some (by kernel_rfl))
  f220 := Tryz.func17.trans (congrArg some (by kernel_rfl))
  f224 := Tryz.func45.trans (congrArg some (by kernel_rfl))
  f225 := Tryz.func44.trans (congrArg some (by kernel_rfl))
  f266 := Tryz.func56.trans (congrArg some (by kernel_rfl))
  f267 := Tryz.func46.trans (congrArg some (by kernel_rfl))
  f314 := Tryz.func57.trans (congrArg some (by kernel_rfl))
  t3 := Tryz.underlying3
  a3 := Tryz.isAgg3
  z3 := Tryz.sizeOf3
  v3 := Tryz.zeroValue3
  t4 := Tryz.underlying4
  a4 := Tryz.isAgg4
  z4 := Tryz.sizeOf4
  v4 := Tryz.zeroValue4
  t5 := Tryz.underlying5
  a5 := Tryz.isAgg5
  z5 := Tryz.sizeOf5
  v5 := Tryz.zeroValue5
  t9 := Tryz.underlying9
  a9 := Tryz.isAgg9
  z9 := Tryz.sizeOf9
  v9 := Tryz.zeroValue9
  t46 := Tryz.underlying76
  a46 := Tryz.isAgg76
  z46 := Tryz.sizeOf76
  v46 := Tryz.zeroValue76
  t51 := Tryz.underlying83
  a51 := Tryz.isAgg83
  z51 := Tryz.sizeOf83
  v51 := Tryz.zeroValue83
  t59 := Tryz.underlying30
  a59 := Tryz.isAgg30
  z59 := Tryz.sizeOf30
  v59 := Tryz.zeroValue30
  t146 := Tryz.underlying84
  a146 := Tryz.isAgg84
  z146 := Tryz.sizeOf84
  v146 := Tryz.zeroValue84
  g1 := by kernel_rfl }
open Go.RowKit Go.Lib in
theorem Tryz.strings_Cut (s sep : ByteArray) (m : Int) (w : World) (hs : s.size < 4294967281) (hm : w.cell? ⟨0, 0, none⟩ = some (.int .i64 m)) :
    Calls Tryz.prog 9 #[.string s, .string sep] w fun e w' => e = .returned (.tuple #[.string ⟨(Lib.cut s.data.toList sep.data.toList).1.toArray⟩, .string ⟨(Lib.cut s.data.toList sep.data.toList).2.1.toArray⟩, .bool (Lib.cut s.data.toList sep.data.toList).2.2]) ∧ ∃ n, w' = w.drewN n := Any.strings_Cut Tryz.lays145 s sep m w hs hm
def Tryz.lays146_ren : Go.Shelf.Ren := ⟨fun | 146 => 8 | 221 => 16 | 268 => 27 | 138 => 28 | 143 => 29 | 195 => 40 | 197 => 41 | 218 => 42 | 219 => 30 | 260 => 55 | 217 => 43 | 225 => 44 | 224 => 45 | 267 => 46 | 266 => 56 | 314 => 57 | n => n, fun | 9 => 9 | 31 => 28 | 3 => 3 | 4 => 4 | 0 => 0 | 105 => 72 | 21 => 21 | 5 => 5 | 46 => 76 | 119 => 105 | 139 => 108 | 138 => 107 | 146 => 84 | 51 => 83 | n => n, fun | 1 => 0 | 3 => 1 | 4 => 2 | n => n⟩
theorem Tryz.lays146 : Go.Proofs.Lays.n146 Tryz.prog Tryz.lays146_ren := {
  mixed := by kernel_rfl
  f138 := Tryz.func28.trans (congrArg some (by kernel_rfl))
  f143 := Tryz.func29.trans (congrArg some (by kernel_rfl))
  f146 := Tryz.func8.trans (congrArg some (by kernel_rfl))
  f195 := Tryz.func40.trans (congrArg some (by kernel_rfl))
  f197 := Tryz.func41.trans (congrArg some (by kernel_rfl))
  f217 := Tryz.func43.trans (congrArg some (by kernel_rfl))
  f218 := Tryz.func42.trans (congrArg some (by kernel_rfl))
  f219 := Tryz.func30.trans (congrArg some (by kernel_rfl))
  f221 := Tryz.func16.trans (congrArg some (by kernel_rfl))
  f224 := Tryz.func45.trans (congrArg some (by kernel_rfl))
  f225 := Tryz.func44.trans (congrArg some (by kernel_rfl))
  f260 := Tryz.func55.trans (congrArg some (by kernel_rfl))
  f266 := Tryz.func56.trans (congrArg some (by kernel_rfl))
  f267 := Tryz.func46.trans (congrArg some (by kernel_rfl))
  f268 := Tryz.func27.trans (congrArg some (by kernel_rfl))
  f314 := Tryz.func57.trans (congrArg some (by kernel_rfl))
  t0 := Tryz.underlying0
  a0 := Tryz.isAgg0
  z0 := Tryz.sizeOf0
  v0 := Tryz.zeroValue0
  t3 := Tryz.underlying3
  a3 := Tryz.isAgg3
  z3 := Tryz.sizeOf3
  v3 := Tryz.zeroValue3
  t4 := Tryz.underlying4
  a4 := Tryz.isAgg4
  z4 := Tryz.sizeOf4
  v4 := Tryz.zeroValue4
  t5 := Tryz.underlying5
  a5 := Tryz.isAgg5
  z5 := Tryz.sizeOf5
  v5 := Tryz.zeroValue5
  t9 := Tryz.underlying9
  a9 := Tryz.isAgg9
  z9 := Tryz.sizeOf9
  v9 := Tryz.zeroValue9
  t21 := Tryz.underlying21
  a21 := Tryz.isAgg21
  z21 := Tryz.sizeOf21
  v21 := Tryz.zeroValue21
  t31 := Tryz.underlying28
  a31 := Tryz.isAgg28
  z31 := Tryz.sizeOf28
  v31 := Tryz.zeroValue28
  t46 := Tryz.underlying76
  a46 := Tryz.isAgg76
  z46 := Tryz.sizeOf76
  v46 := Tryz.zeroValue76
  t51 := Tryz.underlying83
  a51 := Tryz.isAgg83
  z51 := Tryz.sizeOf83
  v51 := Tryz.zeroValue83
  t105 := Tryz.underlying72
  a105 := Tryz.isAgg72
  z105 := Tryz.sizeOf72
  v105 := Tryz.zeroValue72
  t119 := Tryz.underlying105
  a119 := Tryz.isAgg105
  z119 := Tryz.sizeOf105
  t138 := Tryz.underlying107
  a138 := Tryz.isAgg107
  z138 := Tryz.sizeOf107
  v138 := Tryz.zeroValue107
  t139 := Tryz.underlying108
  a139 := Tryz.isAgg108
  z139 := Tryz.sizeOf108
  v139 := Tryz.zeroValue108
  t146 := Tryz.underlying84
  a146 := Tryz.isAgg84
  z146 := Tryz.sizeOf84
  v146 := Tryz.zeroValue84
  g1 := by kernel_rfl
  g3 := by kernel_rfl
  g4 := by kernel_rfl }
open Go.RowKit Go.Lib in
theorem Tryz.strings_Split (s sep : ByteArray) (m : Int) (w : World) (hs : s.size < 4294967281) (hm : w.cell? ⟨0, 0, none⟩ = some (.int .i64 m)) (h1 : 1 ≤ sep.size) :
    Calls Tryz.prog 8 #[.string s, .string sep] w fun e w' =>
      e = .returned (.slice (some ⟨w.heap.size, 0, none⟩) (Lib.countB s sep + 1) (Lib.countB s sep + 1)) ∧ w' = w.alloc (.cells ((Lib.splitB sep 0 (Lib.countB s sep) s).map Value.string).toArray 9) := Any.strings_Split Tryz.lays146 (by kernel_rfl) s sep m w hs hm h1
def Tryz.laysM146_ren : Go.Shelf.Ren := ⟨fun | 146 => 8 | 221 => 16 | 268 => 27 | 138 => 28 | 143 => 29 | 195 => 40 | 197 => 41 | 218 => 42 | 219 => 30 | 260 => 55 | 217 => 43 | 225 => 44 | 224 => 45 | 267 => 46 | 266 => 56 | 314 => 57 | n => n, fun | 9 => 9 | 31 => 28 | 3 => 3 | 4 => 4 | 0 => 0 | 105 => 72 | 21 => 21 | 5 => 5 | 46 => 76 | 119 => 105 | 139 => 108 | 138 => 107 | 146 => 84 | 51 => 83 | n => n, fun | 1 => 0 | 3 => 1 | 4 => 2 | n => n⟩
theorem Tryz.laysM146 : Go.Proofs.LaysM.n146 Tryz.prog Tryz.laysM146_ren := {
  mixed := by kernel_rfl
  f138 := Tryz.func28.trans (congrArg some (by kernel_rfl))
  f143 := Tryz.func29.trans (congrArg some (by kernel_rfl))
  f146 := Tryz.func8.trans (congrArg some (by kernel_rfl))
  f195 := Tryz.func40.trans (congrArg some (by kernel_rfl))
  f197 := Tryz.func41.trans (congrArg some (by kernel_rfl))
  f217 := Tryz.func43.trans (congrArg some (by kernel_rfl))
  f218 := Tryz.func42.trans (congrArg some (by kernel_rfl))
  f219 := Tryz.func30.trans (congrArg some (by kernel_rfl))
  f221 := Tryz.func16.trans (congrArg some (by kernel_rfl))
  f224 := Tryz.func45.trans (congrArg some (by kernel_rfl))
  f225 := Tryz.func44.trans (congrArg some (by kernel_rfl))
  f260 := Tryz.func55.trans (congrArg some (by kernel_rfl))
  f266 := Tryz.func56.trans (congrArg some (by kernel_rfl))
  f267 := Tryz.func46.trans (congrArg some (by kernel_rfl))
  f268 := Tryz.func27.trans (congrArg some (by kernel_rfl))
  f314 := Tryz.func57.trans (congrArg some (by kernel_rfl))
  t0 := Tryz.underlying0
  a0 := Tryz.isAgg0
  z0 := Tryz.sizeOf0
  v0 := Tryz.zeroValue0
  t3 := Tryz.underlying3
  a3 := Tryz.isAgg3
  z3 := Tryz.sizeOf3
  v3 := Tryz.zeroValue3
  t4 := Tryz.underlying4
  a4 := Tryz.isAgg4
  z4 := Tryz.sizeOf4
  v4 := Tryz.zeroValue4
  t5 := Tryz.underlying5
  a5 := Tryz.isAgg5
  z5 := Tryz.sizeOf5
  v5 := Tryz.zeroValue5
  t9 := Tryz.underlying9
  a9 := Tryz.isAgg9
  z9 := Tryz.sizeOf9
  v9 := Tryz.zeroValue9
  t21 := Tryz.underlying21
  a21 := Tryz.isAgg21
  z21 := Tryz.sizeOf21
  v21 := Tryz.zeroValue21
  t31 := Tryz.underlying28
  a31 := Tryz.isAgg28
  z31 := Tryz.sizeOf28
  v31 := Tryz.zeroValue28
  t46 := Tryz.underlying76
  a46 := Tryz.isAgg76
  z46 := Tryz.sizeOf76
  v46 := Tryz.zeroValue76
  t51 := Tryz.underlying83
  a51 := Tryz.isAgg83
  z51 := Tryz.sizeOf83
  v51 := Tryz.zeroValue83
  t105 := Tryz.underlying72
  a105 := Tryz.isAgg72
  z105 := Tryz.sizeOf72
  v105 := Tryz.zeroValue72
  t119 := Tryz.underlying105
  a119 := Tryz.isAgg105
  z119 := Tryz.sizeOf105
  t138 := Tryz.underlying107
  a138 := Tryz.isAgg107
  z138 := Tryz.sizeOf107
  v138 := Tryz.zeroValue107
  t139 := Tryz.underlying108
  a139 := Tryz.isAgg108
  z139 := Tryz.sizeOf108
  v139 := Tryz.zeroValue108
  t146 := Tryz.underlying84
  a146 := Tryz.isAgg84
  z146 := Tryz.sizeOf84
  v146 := Tryz.zeroValue84
  g1 := by kernel_rfl
  g3 := by kernel_rfl
  g4 := by kernel_rfl
  i0 := by kernel_rfl
  i3 := by kernel_rfl
  i4 := by kernel_rfl
  i5 := by kernel_rfl
  i9 := by kernel_rfl
  i21 := by kernel_rfl
  i31 := by kernel_rfl
  i46 := by kernel_rfl
  i51 := by kernel_rfl
  i105 := by kernel_rfl
  i138 := by kernel_rfl
  i139 := by kernel_rfl
  i146 := by kernel_rfl
  m1 := by kernel_rfl
  s1_3 := fun w h => Go.Proofs.cell_of_shapedOpen_int (zero := #[.int .i64 0]) (t := 3) h (of_decide_eq_true (by kernel_rfl)) (by kernel_rfl) rfl (by kernel_rfl) (by kernel_rfl) Tryz.underlying3
  m3 := by kernel_rfl
  m4 := by kernel_rfl }
open Go.RowKit Go.Lib in
theorem Tryz.strings_Split_shaped (s sep : ByteArray) (w : World) (h : w.ShapedOpen Tryz.prog) (hs : s.size < 4294967281) (h1 : 1 ≤ sep.size) :
    Calls Tryz.prog 8 #[.string s, .string sep] w fun e w' =>
      e = .returned (.slice (some ⟨w.heap.size, 0, none⟩) (Lib.countB s sep + 1) (Lib.countB s sep + 1)) ∧ w' = w.alloc (.cells ((Lib.splitB sep 0 (Lib.countB s sep) s).map Value.string).toArray 9) := Any.strings_Split_shaped Tryz.laysM146 s sep w h hs h1
end Go.Proofs
