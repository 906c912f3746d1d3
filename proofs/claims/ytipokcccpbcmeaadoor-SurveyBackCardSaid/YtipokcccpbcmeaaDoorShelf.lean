/-
  DERIVED: THE SHELF's CONTRACTS AT THIS DUMP, IN PLAIN WORDS (tools/lay-plain.mjs out of 'TrydShelf.lean', which tools/lay-shelf.mjs wrote): THE SAME DECLARATIONS UNDER THE SAME NAMES: 'import', 'namespace', 'open', 'def', 'theorem' AND NOTHING ELSE: no command of the shelf's: FOR A HAND-IN. Each laying: the table of numbers ('.._ren') and one theorem, a field a fact of the dump's own or the kernel's comparison; each contract: ONE APPLICATION.
-/
import Derived.Shelf.Strings.Builder1
import Derived.Shelf.Strings.BuilderF
import Derived.Shelf.Strings.BuilderK
import Derived.Shelf.Strconv.Itoa0
import Derived.Shelf.Strconv.Itoa1
import Derived.Shelf.LaysM
import Derived.Shelf.Strconv.Itoa2
import Derived.Shelf.Strconv.Itoa3
import Derived.Shelf.Strings.Search1
import Derived.Shelf.Strings.Search2
import Derived.Shelf.Strings.Search3
import Derived.Shelf.Strings.Cut
import Derived.Shelf.Strings.Count
import Derived.Shelf.Strings.Shaped
import Derived.Shelf.Strings.Prefix
import Derived.Shelf.Strings.Split
import Derived.Shelf.Unicode.DecodeSlow
import Derived.Test.YtipokcccpbcmeaaDoorProg
namespace Go.Proofs
open Go.Shelf
def Tryd.lays169_ren : Go.Shelf.Ren := ⟨fun | 169 => 26 | n => n, fun | 70 => 62 | 9 => 9 | 0 => 0 | 72 => 64 | 37 => 25 | 127 => 88 | 3 => 3 | 5 => 5 | n => n, fun | n => n⟩
theorem Tryd.lays169 : Go.Proofs.Lays.n169 Tryd.prog Tryd.lays169_ren := {
  mixed := by kernel_rfl
  f169 := Tryd.func26.trans (congrArg some (by kernel_rfl))
  t0 := Tryd.underlying0
  a0 := Tryd.isAgg0
  z0 := Tryd.sizeOf0
  v0 := Tryd.zeroValue0
  t3 := Tryd.underlying3
  a3 := Tryd.isAgg3
  z3 := Tryd.sizeOf3
  v3 := Tryd.zeroValue3
  t9 := Tryd.underlying9
  a9 := Tryd.isAgg9
  z9 := Tryd.sizeOf9
  v9 := Tryd.zeroValue9
  t37 := Tryd.underlying25
  a37 := Tryd.isAgg25
  z37 := Tryd.sizeOf25
  v37 := Tryd.zeroValue25
  t70 := Tryd.underlying62
  a70 := Tryd.isAgg62
  z70 := Tryd.sizeOf62
  v70 := Tryd.zeroValue62
  t72 := Tryd.underlying64
  a72 := Tryd.isAgg64
  z72 := Tryd.sizeOf64
  v72 := Tryd.zeroValue64
  t127 := Tryd.underlying88
  a127 := Tryd.isAgg88
  z127 := Tryd.sizeOf88
  v127 := Tryd.zeroValue88 }
theorem Tryd.Builder_Extra_169 : Builder.Extra Tryd.prog Tryd.lays169_ren := {
  sizeBuilder := by kernel_rfl
  liesBuilder := by kernel_rfl
  t5 := Tryd.underlying5
  a5 := Tryd.isAgg5
  z5 := Tryd.sizeOf5
  v5 := Tryd.zeroValue5
  infoByte := by kernel_rfl
  cellsByte := by kernel_rfl
  sizeByte := by kernel_rfl
  neB5 := by decide }
open Go.RowKit in
theorem Tryd.Builder_String_any_k (B b : Nat) (l : List UInt8) (w : World) (h : Lib.IsBuilderF 64 5 B b (Lib.byteCells l) w) (hBw : B ≤ w.heap.size) :
    Calls Tryd.prog 26 #[.pointer (some ⟨b, 0, none⟩)] w fun e w' => e = .returned (.string ⟨l.toArray⟩) ∧ (Lib.IsBuilderF 64 5 B b (Lib.byteCells l) w' ∧ Below B w w' ∧ Lib.OthersKept 5 (some b) w w') := Any.Builder_String_any_k Tryd.lays169 Tryd.Builder_Extra_169 B b l w h hBw
def Tryd.laysM171_ren : Go.Shelf.Ren := ⟨fun | 171 => 43 | 243 => 56 | 246 => 66 | 283 => 77 | 284 => 78 | 285 => 79 | 286 => 80 | 129 => 85 | 317 => 84 | 318 => 86 | 319 => 87 | 320 => 88 | 337 => 89 | 338 => 90 | n => n, fun | 3 => 3 | 9 => 9 | 2 => 2 | 4 => 4 | 171 => 110 | 0 => 0 | 53 => 111 | 37 => 25 | 5 => 5 | 173 => 114 | 212 => 120 | 51 => 116 | 20 => 20 | 213 => 121 | 46 => 106 | 232 => 128 | 233 => 129 | n => n, fun | 17 => 1 | 18 => 4 | 19 => 5 | n => n⟩
theorem Tryd.laysM171 : Go.Proofs.LaysM.n171 Tryd.prog Tryd.laysM171_ren := {
  mixed := by kernel_rfl
  f129 := Tryd.func85.trans (congrArg some (by kernel_rfl))
  f171 := Tryd.func43.trans (congrArg some (by kernel_rfl))
  f243 := Tryd.func56.trans (congrArg some (by kernel_rfl))
  f246 := Tryd.func66.trans (congrArg some (by kernel_rfl))
  f283 := Tryd.func77.trans (congrArg some (by kernel_rfl))
  f284 := Tryd.func78.trans (congrArg some (by kernel_rfl))
  f285 := Tryd.func79.trans (congrArg some (by kernel_rfl))
  f286 := Tryd.func80.trans (congrArg some (by kernel_rfl))
  f317 := Tryd.func84.trans (congrArg some (by kernel_rfl))
  f318 := Tryd.func86.trans (congrArg some (by kernel_rfl))
  f319 := Tryd.func87.trans (congrArg some (by kernel_rfl))
  f320 := Tryd.func88.trans (congrArg some (by kernel_rfl))
  f337 := Tryd.func89.trans (congrArg some (by kernel_rfl))
  f338 := Tryd.func90.trans (congrArg some (by kernel_rfl))
  t0 := Tryd.underlying0
  a0 := Tryd.isAgg0
  z0 := Tryd.sizeOf0
  v0 := Tryd.zeroValue0
  t2 := Tryd.underlying2
  a2 := Tryd.isAgg2
  z2 := Tryd.sizeOf2
  v2 := Tryd.zeroValue2
  t3 := Tryd.underlying3
  a3 := Tryd.isAgg3
  z3 := Tryd.sizeOf3
  v3 := Tryd.zeroValue3
  t4 := Tryd.underlying4
  a4 := Tryd.isAgg4
  z4 := Tryd.sizeOf4
  v4 := Tryd.zeroValue4
  t5 := Tryd.underlying5
  a5 := Tryd.isAgg5
  z5 := Tryd.sizeOf5
  v5 := Tryd.zeroValue5
  t9 := Tryd.underlying9
  a9 := Tryd.isAgg9
  z9 := Tryd.sizeOf9
  v9 := Tryd.zeroValue9
  t20 := Tryd.underlying20
  a20 := Tryd.isAgg20
  z20 := Tryd.sizeOf20
  v20 := Tryd.zeroValue20
  t37 := Tryd.underlying25
  a37 := Tryd.isAgg25
  z37 := Tryd.sizeOf25
  v37 := Tryd.zeroValue25
  t46 := Tryd.underlying106
  a46 := Tryd.isAgg106
  z46 := Tryd.sizeOf106
  v46 := Tryd.zeroValue106
  t51 := Tryd.underlying116
  a51 := Tryd.isAgg116
  z51 := Tryd.sizeOf116
  v51 := Tryd.zeroValue116
  t53 := Tryd.underlying111
  a53 := Tryd.isAgg111
  z53 := Tryd.sizeOf111
  v53 := Tryd.zeroValue111
  t171 := Tryd.underlying110
  a171 := Tryd.isAgg110
  z171 := Tryd.sizeOf110
  v171 := Tryd.zeroValue110
  t173 := Tryd.underlying114
  a173 := Tryd.isAgg114
  z173 := Tryd.sizeOf114
  v173 := Tryd.zeroValue114
  t212 := Tryd.underlying120
  a212 := Tryd.isAgg120
  z212 := Tryd.sizeOf120
  v212 := Tryd.zeroValue120
  t213 := Tryd.underlying121
  a213 := Tryd.isAgg121
  z213 := Tryd.sizeOf121
  t232 := Tryd.underlying128
  a232 := Tryd.isAgg128
  z232 := Tryd.sizeOf128
  v232 := Tryd.zeroValue128
  t233 := Tryd.underlying129
  a233 := Tryd.isAgg129
  z233 := Tryd.sizeOf129
  v233 := Tryd.zeroValue129
  g17 := by kernel_rfl
  g18 := by kernel_rfl
  g19 := by kernel_rfl
  i0 := by kernel_rfl
  i2 := by kernel_rfl
  i3 := by kernel_rfl
  i4 := by kernel_rfl
  i5 := by kernel_rfl
  i9 := by kernel_rfl
  i20 := by kernel_rfl
  i37 := by kernel_rfl
  i46 := by kernel_rfl
  i51 := by kernel_rfl
  i53 := by kernel_rfl
  i171 := by kernel_rfl
  i173 := by kernel_rfl
  i212 := by kernel_rfl
  i232 := by kernel_rfl
  i233 := by kernel_rfl
  m17 := by kernel_rfl
  m18 := by kernel_rfl
  m19 := by kernel_rfl }
open Go.RowKit Go.Sort Go.Lib in
theorem Tryd.strconv_Itoa (n : Int) (h0 : -9223372036854775808 ≤ n) (h1 : n ≤ 9223372036854775807) (w : World) (htab : Lib.TabIs Tryd.prog w "internal/strconv.uint64pow10" .u64 Lib.pow10Tab) :
    Calls Tryd.prog 43 #[.int .i64 n] w fun e w' => e = .returned (.string ⟨(Lib.itoa n).toArray⟩) ∧ ∃ k os, w' = grow (w.drewN k) os := Any.strconv_Itoa Tryd.laysM171 n h0 h1 w htab
def Tryd.lays219_ren : Go.Shelf.Ren := ⟨fun | 219 => 57 | 217 => 67 | 225 => 68 | 224 => 69 | 267 => 70 | 266 => 81 | 314 => 82 | n => n, fun | 9 => 9 | 3 => 3 | 4 => 4 | 5 => 5 | 46 => 106 | 146 => 117 | 51 => 116 | n => n, fun | 1 => 0 | n => n⟩
theorem Tryd.lays219 : Go.Proofs.Lays.n219 Tryd.prog Tryd.lays219_ren := {
  mixed := by kernel_rfl
  f217 := Tryd.func67.trans (congrArg some (by kernel_rfl))
  f219 := Tryd.func57.trans (congrArg some (by kernel_rfl))
  f224 := Tryd.func69.trans (congrArg some (by kernel_rfl))
  f225 := Tryd.func68.trans (congrArg some (by kernel_rfl))
  f266 := Tryd.func81.trans (congrArg some (by kernel_rfl))
  f267 := Tryd.func70.trans (congrArg some (by kernel_rfl))
  f314 := Tryd.func82.trans (congrArg some (by kernel_rfl))
  t3 := Tryd.underlying3
  a3 := Tryd.isAgg3
  z3 := Tryd.sizeOf3
  v3 := Tryd.zeroValue3
  t4 := Tryd.underlying4
  a4 := Tryd.isAgg4
  z4 := Tryd.sizeOf4
  v4 := Tryd.zeroValue4
  t5 := Tryd.underlying5
  a5 := Tryd.isAgg5
  z5 := Tryd.sizeOf5
  v5 := Tryd.zeroValue5
  t9 := Tryd.underlying9
  a9 := Tryd.isAgg9
  z9 := Tryd.sizeOf9
  v9 := Tryd.zeroValue9
  t46 := Tryd.underlying106
  a46 := Tryd.isAgg106
  z46 := Tryd.sizeOf106
  v46 := Tryd.zeroValue106
  t51 := Tryd.underlying116
  a51 := Tryd.isAgg116
  z51 := Tryd.sizeOf116
  v51 := Tryd.zeroValue116
  t146 := Tryd.underlying117
  a146 := Tryd.isAgg117
  z146 := Tryd.sizeOf117
  v146 := Tryd.zeroValue117
  g1 := by kernel_rfl }
open Go.RowKit Go.Lib in
theorem Tryd.stringslite_Index_one (s : ByteArray) (c : UInt8) (w : World) :
    Calls Tryd.prog 57 #[.string s, .string ⟨#[c]⟩] w fun e w' => e = .returned (.int .i64 (Lib.indexByte s.data.toList c)) ∧ w' = w := Any.stringslite_Index_one Tryd.lays219 s c w
def Tryd.lays143_ren : Go.Shelf.Ren := ⟨fun | 143 => 50 | 219 => 57 | 217 => 67 | 225 => 68 | 224 => 69 | 267 => 70 | 266 => 81 | 314 => 82 | n => n, fun | 9 => 9 | 3 => 3 | 4 => 4 | 5 => 5 | 46 => 106 | 146 => 117 | 51 => 116 | n => n, fun | 1 => 0 | n => n⟩
theorem Tryd.lays143 : Go.Proofs.Lays.n143 Tryd.prog Tryd.lays143_ren := {
  mixed := by kernel_rfl
  f143 := Tryd.func50.trans (congrArg some (by kernel_rfl))
  f217 := Tryd.func67.trans (congrArg some (by kernel_rfl))
  f219 := Tryd.func57.trans (congrArg some (by kernel_rfl))
  f224 := Tryd.func69.trans (congrArg some (by kernel_rfl))
  f225 := Tryd.func68.trans (congrArg some (by kernel_rfl))
  f266 := Tryd.func81.trans (congrArg some (by kernel_rfl))
  f267 := Tryd.func70.trans (congrArg some (by kernel_rfl))
  f314 := Tryd.func82.trans (congrArg some (by kernel_rfl))
  t3 := Tryd.underlying3
  a3 := Tryd.isAgg3
  z3 := Tryd.sizeOf3
  v3 := Tryd.zeroValue3
  t4 := Tryd.underlying4
  a4 := Tryd.isAgg4
  z4 := Tryd.sizeOf4
  v4 := Tryd.zeroValue4
  t5 := Tryd.underlying5
  a5 := Tryd.isAgg5
  z5 := Tryd.sizeOf5
  v5 := Tryd.zeroValue5
  t9 := Tryd.underlying9
  a9 := Tryd.isAgg9
  z9 := Tryd.sizeOf9
  v9 := Tryd.zeroValue9
  t46 := Tryd.underlying106
  a46 := Tryd.isAgg106
  z46 := Tryd.sizeOf106
  v46 := Tryd.zeroValue106
  t51 := Tryd.underlying116
  a51 := Tryd.isAgg116
  z51 := Tryd.sizeOf116
  v51 := Tryd.zeroValue116
  t146 := Tryd.underlying117
  a146 := Tryd.isAgg117
  z146 := Tryd.sizeOf117
  v146 := Tryd.zeroValue117
  g1 := by kernel_rfl }
open Go.RowKit Go.Lib in
theorem Tryd.strings_Index_one (s : ByteArray) (c : UInt8) (w : World) :
    Calls Tryd.prog 50 #[.string s, .string ⟨#[c]⟩] w fun e w' => e = .returned (.int .i64 (Lib.indexByte s.data.toList c)) ∧ w' = w := Any.strings_Index_one Tryd.lays143 s c w
def Tryd.lays138_ren : Go.Shelf.Ren := ⟨fun | 138 => 59 | 195 => 71 | 218 => 73 | 143 => 50 | 219 => 57 | 217 => 67 | 225 => 68 | 224 => 69 | 267 => 70 | 266 => 81 | 314 => 82 | n => n, fun | 9 => 9 | 3 => 3 | 4 => 4 | 5 => 5 | 0 => 0 | 46 => 106 | 146 => 117 | 51 => 116 | n => n, fun | 1 => 0 | n => n⟩
theorem Tryd.lays138 : Go.Proofs.Lays.n138 Tryd.prog Tryd.lays138_ren := {
  mixed := by kernel_rfl
  f138 := Tryd.func59.trans (congrArg some (by kernel_rfl))
  f143 := Tryd.func50.trans (congrArg some (by kernel_rfl))
  f195 := Tryd.func71.trans (congrArg some (by kernel_rfl))
  f217 := Tryd.func67.trans (congrArg some (by kernel_rfl))
  f218 := Tryd.func73.trans (congrArg some (by kernel_rfl))
  f219 := Tryd.func57.trans (congrArg some (by kernel_rfl))
  f224 := Tryd.func69.trans (congrArg some (by kernel_rfl))
  f225 := Tryd.func68.trans (congrArg some (by kernel_rfl))
  f266 := Tryd.func81.trans (congrArg some (by kernel_rfl))
  f267 := Tryd.func70.trans (congrArg some (by kernel_rfl))
  f314 := Tryd.func82.trans (congrArg some (by kernel_rfl))
  t0 := Tryd.underlying0
  a0 := Tryd.isAgg0
  z0 := Tryd.sizeOf0
  v0 := Tryd.zeroValue0
  t3 := Tryd.underlying3
  a3 := Tryd.isAgg3
  z3 := Tryd.sizeOf3
  v3 := Tryd.zeroValue3
  t4 := Tryd.underlying4
  a4 := Tryd.isAgg4
  z4 := Tryd.sizeOf4
  v4 := Tryd.zeroValue4
  t5 := Tryd.underlying5
  a5 := Tryd.isAgg5
  z5 := Tryd.sizeOf5
  v5 := Tryd.zeroValue5
  t9 := Tryd.underlying9
  a9 := Tryd.isAgg9
  z9 := Tryd.sizeOf9
  v9 := Tryd.zeroValue9
  t46 := Tryd.underlying106
  a46 := Tryd.isAgg106
  z46 := Tryd.sizeOf106
  v46 := Tryd.zeroValue106
  t51 := Tryd.underlying116
  a51 := Tryd.isAgg116
  z51 := Tryd.sizeOf116
  v51 := Tryd.zeroValue116
  t146 := Tryd.underlying117
  a146 := Tryd.isAgg117
  z146 := Tryd.sizeOf117
  v146 := Tryd.zeroValue117
  g1 := by kernel_rfl }
open Go.RowKit Go.Lib in
theorem Tryd.strings_Count_one (s : ByteArray) (c : UInt8) (w : World) :
    Calls Tryd.prog 59 #[.string s, .string ⟨#[c]⟩] w fun e w' => e = .returned (.int .i64 (Lib.countByte s.data.toList c)) ∧ w' = w := Any.strings_Count_one Tryd.lays138 s c w
def Tryd.lays101_ren : Go.Shelf.Ren := ⟨fun | 101 => 60 | 208 => 74 | 206 => 62 | n => n, fun | 9 => 9 | 4 => 4 | 3 => 3 | n => n, fun | n => n⟩
theorem Tryd.lays101 : Go.Proofs.Lays.n101 Tryd.prog Tryd.lays101_ren := {
  mixed := by kernel_rfl
  f101 := Tryd.func60.trans (congrArg some (by kernel_rfl))
  f206 := Tryd.func62.trans (congrArg some (by kernel_rfl))
  f208 := Tryd.func74.trans (congrArg some (by kernel_rfl))
  t3 := Tryd.underlying3
  a3 := Tryd.isAgg3
  z3 := Tryd.sizeOf3
  v3 := Tryd.zeroValue3
  t4 := Tryd.underlying4
  a4 := Tryd.isAgg4
  z4 := Tryd.sizeOf4
  v4 := Tryd.zeroValue4
  t9 := Tryd.underlying9
  a9 := Tryd.isAgg9
  z9 := Tryd.sizeOf9
  v9 := Tryd.zeroValue9 }
open Go.RowKit Go.Lib in
theorem Tryd.strings_TrimPrefix (s p : ByteArray) (w : World) :
    Calls Tryd.prog 60 #[.string s, .string p] w fun e w' => e = .returned (.string ⟨(Lib.trimPrefix s.data.toList p.data.toList).toArray⟩) ∧ w' = w := Any.strings_TrimPrefix Tryd.lays101 s p w
def Tryd.lays221_ren : Go.Shelf.Ren := ⟨fun | 221 => 46 | 268 => 58 | 138 => 59 | 143 => 50 | 195 => 71 | 197 => 72 | 218 => 73 | 219 => 57 | 260 => 83 | 217 => 67 | 225 => 68 | 224 => 69 | 267 => 70 | 266 => 81 | 314 => 82 | n => n, fun | 9 => 9 | 3 => 3 | 31 => 45 | 4 => 4 | 0 => 0 | 105 => 107 | 21 => 21 | 5 => 5 | 46 => 106 | 119 => 123 | 139 => 126 | 138 => 125 | 146 => 117 | 51 => 116 | n => n, fun | 1 => 0 | 3 => 2 | 4 => 3 | n => n⟩
theorem Tryd.lays221 : Go.Proofs.Lays.n221 Tryd.prog Tryd.lays221_ren := {
  mixed := by kernel_rfl
  f138 := Tryd.func59.trans (congrArg some (by kernel_rfl))
  f143 := Tryd.func50.trans (congrArg some (by kernel_rfl))
  f195 := Tryd.func71.trans (congrArg some (by kernel_rfl))
  f197 := Tryd.func72.trans (congrArg some (by kernel_rfl))
  f217 := Tryd.func67.trans (congrArg some (by kernel_rfl))
  f218 := Tryd.func73.trans (congrArg some (by kernel_rfl))
  f219 := Tryd.func57.trans (congrArg some (by kernel_rfl))
  f221 := Tryd.func46.trans (congrArg some (by kernel_rfl))
  f224 := Tryd.func69.trans (congrArg some (by kernel_rfl))
  f225 := Tryd.func68.trans (congrArg some (by kernel_rfl))
  f260 := Tryd.func83.trans (congrArg some (by kernel_rfl))
  f266 := Tryd.func81.trans (congrArg some (by kernel_rfl))
  f267 := Tryd.func70.trans (congrArg some (by kernel_rfl))
  f268 := Tryd.func58.trans (congrArg some (by kernel_rfl))
  f314 := Tryd.func82.trans (congrArg some (by kernel_rfl))
  t0 := Tryd.underlying0
  a0 := Tryd.isAgg0
  z0 := Tryd.sizeOf0
  v0 := Tryd.zeroValue0
  t3 := Tryd.underlying3
  a3 := Tryd.isAgg3
  z3 := Tryd.sizeOf3
  v3 := Tryd.zeroValue3
  t4 := Tryd.underlying4
  a4 := Tryd.isAgg4
  z4 := Tryd.sizeOf4
  v4 := Tryd.zeroValue4
  t5 := Tryd.underlying5
  a5 := Tryd.isAgg5
  z5 := Tryd.sizeOf5
  v5 := Tryd.zeroValue5
  t9 := Tryd.underlying9
  a9 := Tryd.isAgg9
  z9 := Tryd.sizeOf9
  v9 := Tryd.zeroValue9
  t21 := Tryd.underlying21
  a21 := Tryd.isAgg21
  z21 := Tryd.sizeOf21
  v21 := Tryd.zeroValue21
  t31 := Tryd.underlying45
  a31 := Tryd.isAgg45
  z31 := Tryd.sizeOf45
  v31 := Tryd.zeroValue45
  t46 := Tryd.underlying106
  a46 := Tryd.isAgg106
  z46 := Tryd.sizeOf106
  v46 := Tryd.zeroValue106
  t51 := Tryd.underlying116
  a51 := Tryd.isAgg116
  z51 := Tryd.sizeOf116
  v51 := Tryd.zeroValue116
  t105 := Tryd.underlying107
  a105 := Tryd.isAgg107
  z105 := Tryd.sizeOf107
  v105 := Tryd.zeroValue107
  t119 := Tryd.underlying123
  a119 := Tryd.isAgg123
  z119 := Tryd.sizeOf123
  t138 := Tryd.underlying125
  a138 := Tryd.isAgg125
  z138 := Tryd.sizeOf125
  v138 := Tryd.zeroValue125
  t139 := Tryd.underlying126
  a139 := Tryd.isAgg126
  z139 := Tryd.sizeOf126
  v139 := Tryd.zeroValue126
  t146 := Tryd.underlying117
  a146 := Tryd.isAgg117
  z146 := Tryd.sizeOf117
  v146 := Tryd.zeroValue117
  g1 := by kernel_rfl
  g3 := by kernel_rfl
  g4 := by kernel_rfl }
def Tryd.lays146_ren : Go.Shelf.Ren := ⟨fun | 146 => 32 | 221 => 46 | 268 => 58 | 138 => 59 | 143 => 50 | 195 => 71 | 197 => 72 | 218 => 73 | 219 => 57 | 260 => 83 | 217 => 67 | 225 => 68 | 224 => 69 | 267 => 70 | 266 => 81 | 314 => 82 | n => n, fun | 9 => 9 | 31 => 45 | 3 => 3 | 4 => 4 | 0 => 0 | 105 => 107 | 21 => 21 | 5 => 5 | 46 => 106 | 119 => 123 | 139 => 126 | 138 => 125 | 146 => 117 | 51 => 116 | n => n, fun | 1 => 0 | 3 => 2 | 4 => 3 | n => n⟩
theorem Tryd.lays146 : Go.Proofs.Lays.n146 Tryd.prog Tryd.lays146_ren := {
  mixed := by kernel_rfl
  f138 := Tryd.func59.trans (congrArg some (by kernel_rfl))
  f143 := Tryd.func50.trans (congrArg some (by kernel_rfl))
  f146 := Tryd.func32.trans (congrArg some (by kernel_rfl))
  f195 := Tryd.func71.trans (congrArg some (by kernel_rfl))
  f197 := Tryd.func72.trans (congrArg some (by kernel_rfl))
  f217 := Tryd.func67.trans (congrArg some (by kernel_rfl))
  f218 := Tryd.func73.trans (congrArg some (by kernel_rfl))
  f219 := Tryd.func57.trans (congrArg some (by kernel_rfl))
  f221 := Tryd.func46.trans (congrArg some (by kernel_rfl))
  f224 := Tryd.func69.trans (congrArg some (by kernel_rfl))
  f225 := Tryd.func68.trans (congrArg some (by kernel_rfl))
  f260 := Tryd.func83.trans (congrArg some (by kernel_rfl))
  f266 := Tryd.func81.trans (congrArg some (by kernel_rfl))
  f267 := Tryd.func70.trans (congrArg some (by kernel_rfl))
  f268 := Tryd.func58.trans (congrArg some (by kernel_rfl))
  f314 := Tryd.func82.trans (congrArg some (by kernel_rfl))
  t0 := Tryd.underlying0
  a0 := Tryd.isAgg0
  z0 := Tryd.sizeOf0
  v0 := Tryd.zeroValue0
  t3 := Tryd.underlying3
  a3 := Tryd.isAgg3
  z3 := Tryd.sizeOf3
  v3 := Tryd.zeroValue3
  t4 := Tryd.underlying4
  a4 := Tryd.isAgg4
  z4 := Tryd.sizeOf4
  v4 := Tryd.zeroValue4
  t5 := Tryd.underlying5
  a5 := Tryd.isAgg5
  z5 := Tryd.sizeOf5
  v5 := Tryd.zeroValue5
  t9 := Tryd.underlying9
  a9 := Tryd.isAgg9
  z9 := Tryd.sizeOf9
  v9 := Tryd.zeroValue9
  t21 := Tryd.underlying21
  a21 := Tryd.isAgg21
  z21 := Tryd.sizeOf21
  v21 := Tryd.zeroValue21
  t31 := Tryd.underlying45
  a31 := Tryd.isAgg45
  z31 := Tryd.sizeOf45
  v31 := Tryd.zeroValue45
  t46 := Tryd.underlying106
  a46 := Tryd.isAgg106
  z46 := Tryd.sizeOf106
  v46 := Tryd.zeroValue106
  t51 := Tryd.underlying116
  a51 := Tryd.isAgg116
  z51 := Tryd.sizeOf116
  v51 := Tryd.zeroValue116
  t105 := Tryd.underlying107
  a105 := Tryd.isAgg107
  z105 := Tryd.sizeOf107
  v105 := Tryd.zeroValue107
  t119 := Tryd.underlying123
  a119 := Tryd.isAgg123
  z119 := Tryd.sizeOf123
  t138 := Tryd.underlying125
  a138 := Tryd.isAgg125
  z138 := Tryd.sizeOf125
  v138 := Tryd.zeroValue125
  t139 := Tryd.underlying126
  a139 := Tryd.isAgg126
  z139 := Tryd.sizeOf126
  v139 := Tryd.zeroValue126
  t146 := Tryd.underlying117
  a146 := Tryd.isAgg117
  z146 := Tryd.sizeOf117
  v146 := Tryd.zeroValue117
  g1 := by kernel_rfl
  g3 := by kernel_rfl
  g4 := by kernel_rfl }
open Go.RowKit Go.Lib in
theorem Tryd.strings_Split (s sep : ByteArray) (m : Int) (w : World) (hs : s.size < 4294967281) (hm : w.cell? ⟨0, 0, none⟩ = some (.int .i64 m)) (h1 : 1 ≤ sep.size) :
    Calls Tryd.prog 32 #[.string s, .string sep] w fun e w' =>
      e = .returned (.slice (some ⟨w.heap.size, 0, none⟩) (Lib.countB s sep + 1) (Lib.countB s sep + 1)) ∧ w' = w.alloc (.cells ((Lib.splitB sep 0 (Lib.countB s sep) s).map Value.string).toArray 9) := Any.strings_Split Tryd.lays146 (by kernel_rfl) s sep m w hs hm h1
end Go.Proofs
