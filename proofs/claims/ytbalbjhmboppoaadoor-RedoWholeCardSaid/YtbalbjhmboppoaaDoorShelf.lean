/-
  THE SHELF's CONTRACTS of Go's library at this translation, in plain words (written by the kit's lay-shelf and lay-plain, cut to what this claim uses).
  No condition of ours.
-/
import Derived.Shelf.Strings.Builder1
import Derived.Shelf.Strings.Builder2
import Derived.Shelf.Strings.BuilderF
import Derived.Shelf.Strings.BuilderK
import Derived.Shelf.Strings.Builder2Cap
import Derived.Shelf.Strconv.Itoa0
import Derived.Shelf.Strings.Prefix
import Derived.Shelf.Bits.Mul64
import Derived.Shelf.Strings.Repeat
import Derived.Shelf.Strings.BuilderCap
import Derived.Test.YtbalbjhmboppoaaDoorProg
namespace Go.Proofs
open Go.Shelf
def Tryd.lays129_ren : Go.Shelf.Ren := ⟨fun | 129 => 96 | n => n, fun | 53 => 68 | 3 => 3 | 4 => 4 | 46 => 88 | 5 => 5 | 9 => 9 | n => n, fun | n => n⟩
theorem Tryd.lays129 : Go.Proofs.Lays.n129 Tryd.prog Tryd.lays129_ren := {
  mixed := by kernel_rfl
  f129 := Tryd.func96.trans (congrArg some (by kernel_rfl))
  t3 := Tryd.underlying3
  a3 := Tryd.isAgg3
  z3 := Tryd.sizeOf3
  v3 := Tryd.zeroValue3
  t4 := Tryd.underlying4
  a4 := Tryd.isAgg4
  z4 := Tryd.sizeOf4
  v4 := Tryd.zeroValue4
  t5 := Tryd.underlying5
  a5 := Tryd.isAgg5
  z5 := Tryd.sizeOf5
  v5 := Tryd.zeroValue5
  t9 := Tryd.underlying9
  a9 := Tryd.isAgg9
  z9 := Tryd.sizeOf9
  v9 := Tryd.zeroValue9
  t46 := Tryd.underlying88
  a46 := Tryd.isAgg88
  z46 := Tryd.sizeOf88
  v46 := Tryd.zeroValue88
  t53 := Tryd.underlying68
  a53 := Tryd.isAgg68
  z53 := Tryd.sizeOf68
  v53 := Tryd.zeroValue68 }
/-- bits.Len64: "Len64 returns the minimum number of bits required to represent x; the result is 0 for x == 0.": IT RETURNS 'Lib.bitLen x'; the world is as it was. ('h0', 'h1': x is a uint64.) (LAID: no walk: one application.) -/
theorem Tryd.bits_Len64 (x : Int) (w : World) (h0 : 0 ≤ x) (h1 : x ≤ 18446744073709551615) :
    Calls Tryd.prog 96 #[.int .u64 x] w fun e w' => e = .returned (.int .i64 (Lib.bitLen x.toNat)) ∧ w' = w := Any.bits_Len64 Tryd.lays129 x w h0 h1
def Tryd.lays212_ren : Go.Shelf.Ren := ⟨fun | 212 => 60 | 263 => 80 | 264 => 81 | n => n, fun | 46 => 88 | 51 => 110 | 146 => 115 | 53 => 68 | 148 => 117 | n => n, fun | n => n⟩
theorem Tryd.lays212 : Go.Proofs.Lays.n212 Tryd.prog Tryd.lays212_ren := {
  mixed := by kernel_rfl
  f212 := Tryd.func60.trans (congrArg some (by kernel_rfl))
  f263 := Tryd.func80.trans (congrArg some (by kernel_rfl))
  f264 := Tryd.func81.trans (congrArg some (by kernel_rfl))
  t46 := Tryd.underlying88
  a46 := Tryd.isAgg88
  z46 := Tryd.sizeOf88
  v46 := Tryd.zeroValue88
  t51 := Tryd.underlying110
  a51 := Tryd.isAgg110
  z51 := Tryd.sizeOf110
  v51 := Tryd.zeroValue110
  t53 := Tryd.underlying68
  a53 := Tryd.isAgg68
  z53 := Tryd.sizeOf68
  v53 := Tryd.zeroValue68
  t146 := Tryd.underlying115
  a146 := Tryd.isAgg115
  z146 := Tryd.sizeOf115
  v146 := Tryd.zeroValue115
  t148 := Tryd.underlying117
  a148 := Tryd.isAgg117
  z148 := Tryd.sizeOf117
  v148 := Tryd.zeroValue117 }
open Go.RowKit Go.Lib in
/-- math/bits.Mul: "Mul returns the full-width product of x and y": on a machine of 64 bits: Mul64's. (LAID: no walk: one application.) -/
theorem Tryd.bits_Mul (x y : Nat) (hx : x < 18446744073709551616) (hy : y < 18446744073709551616) (w : World) :
    Calls Tryd.prog 60 #[.int .u64 x, .int .u64 y] w fun e w' => e = .returned (.tuple #[.int .u64 ((x * y / 18446744073709551616 : Nat) : Int), .int .u64 ((x * y % 18446744073709551616 : Nat) : Int)]) ∧ w' = w := Any.bits_Mul Tryd.lays212 x y hx hy w
def Tryd.lays105_ren : Go.Shelf.Ren := ⟨fun | 105 => 39 | 212 => 60 | 99 => 61 | 165 => 62 | 166 => 63 | 170 => 64 | 169 => 65 | 263 => 80 | 264 => 81 | 206 => 82 | 240 => 83 | 241 => 84 | 276 => 98 | 277 => 99 | n => n, fun | 9 => 9 | 3 => 3 | 4 => 4 | 20 => 20 | 0 => 0 | 46 => 88 | 109 => 89 | 5 => 5 | 72 => 94 | 76 => 97 | 51 => 110 | 146 => 115 | 53 => 68 | 148 => 117 | 70 => 92 | 37 => 54 | 75 => 96 | 127 => 119 | 164 => 130 | 80 => 77 | n => n, fun | n => n⟩
theorem Tryd.lays105 : Go.Proofs.Lays.n105 Tryd.prog Tryd.lays105_ren := {
  mixed := by kernel_rfl
  f99 := Tryd.func61.trans (congrArg some (by kernel_rfl))
  f105 := Tryd.func39.trans (congrArg some (by kernel_rfl))
  f165 := Tryd.func62.trans (congrArg some (by kernel_rfl))
  f166 := Tryd.func63.trans (congrArg some (by kernel_rfl))
  f169 := Tryd.func65.trans (congrArg some (by kernel_rfl))
  f170 := Tryd.func64.trans (congrArg some (by kernel_rfl))
  f206 := Tryd.func82.trans (congrArg some (by kernel_rfl))
  f212 := Tryd.func60.trans (congrArg some (by kernel_rfl))
  f240 := Tryd.func83.trans (congrArg some (by kernel_rfl))
  f241 := Tryd.func84.trans (congrArg some (by kernel_rfl))
  f263 := Tryd.func80.trans (congrArg some (by kernel_rfl))
  f264 := Tryd.func81.trans (congrArg some (by kernel_rfl))
  f276 := Tryd.func98.trans (congrArg some (by kernel_rfl))
  f277 := Tryd.func99.trans (congrArg some (by kernel_rfl))
  t0 := Tryd.underlying0
  a0 := Tryd.isAgg0
  z0 := Tryd.sizeOf0
  v0 := Tryd.zeroValue0
  t3 := Tryd.underlying3
  a3 := Tryd.isAgg3
  z3 := Tryd.sizeOf3
  v3 := Tryd.zeroValue3
  t4 := Tryd.underlying4
  a4 := Tryd.isAgg4
  z4 := Tryd.sizeOf4
  v4 := Tryd.zeroValue4
  t5 := Tryd.underlying5
  a5 := Tryd.isAgg5
  z5 := Tryd.sizeOf5
  v5 := Tryd.zeroValue5
  t9 := Tryd.underlying9
  a9 := Tryd.isAgg9
  z9 := Tryd.sizeOf9
  v9 := Tryd.zeroValue9
  t20 := Tryd.underlying20
  a20 := Tryd.isAgg20
  z20 := Tryd.sizeOf20
  v20 := Tryd.zeroValue20
  t37 := Tryd.underlying54
  a37 := Tryd.isAgg54
  z37 := Tryd.sizeOf54
  v37 := Tryd.zeroValue54
  t46 := Tryd.underlying88
  a46 := Tryd.isAgg88
  z46 := Tryd.sizeOf88
  v46 := Tryd.zeroValue88
  t51 := Tryd.underlying110
  a51 := Tryd.isAgg110
  z51 := Tryd.sizeOf110
  v51 := Tryd.zeroValue110
  t53 := Tryd.underlying68
  a53 := Tryd.isAgg68
  z53 := Tryd.sizeOf68
  v53 := Tryd.zeroValue68
  t70 := Tryd.underlying92
  a70 := Tryd.isAgg92
  z70 := Tryd.sizeOf92
  v70 := Tryd.zeroValue92
  t72 := Tryd.underlying94
  a72 := Tryd.isAgg94
  z72 := Tryd.sizeOf94
  v72 := Tryd.zeroValue94
  t75 := Tryd.underlying96
  a75 := Tryd.isAgg96
  z75 := Tryd.sizeOf96
  v75 := Tryd.zeroValue96
  t76 := Tryd.underlying97
  a76 := Tryd.isAgg97
  z76 := Tryd.sizeOf97
  v76 := Tryd.zeroValue97
  t109 := Tryd.underlying89
  a109 := Tryd.isAgg89
  z109 := Tryd.sizeOf89
  v109 := Tryd.zeroValue89
  t127 := Tryd.underlying119
  a127 := Tryd.isAgg119
  z127 := Tryd.sizeOf119
  v127 := Tryd.zeroValue119
  t146 := Tryd.underlying115
  a146 := Tryd.isAgg115
  z146 := Tryd.sizeOf115
  v146 := Tryd.zeroValue115
  t148 := Tryd.underlying117
  a148 := Tryd.isAgg117
  z148 := Tryd.sizeOf117
  v148 := Tryd.zeroValue117
  t164 := Tryd.underlying130
  a164 := Tryd.isAgg130
  z164 := Tryd.sizeOf130
  v164 := Tryd.zeroValue130 }
theorem Tryd.Builder_Extra_105 : Builder.Extra Tryd.prog Tryd.lays105_ren := {
  sizeBuilder := by kernel_rfl
  liesBuilder := by kernel_rfl
  t5 := Tryd.underlying5
  a5 := Tryd.isAgg5
  z5 := Tryd.sizeOf5
  v5 := Tryd.zeroValue5
  infoByte := by kernel_rfl
  cellsByte := by kernel_rfl
  sizeByte := by kernel_rfl
  neB5 := by decide }
open Go.RowKit Go.Lib in
/-- **strings.Repeat: count ≥ 0, the result within one allocation: count copies of s.** (LAID: no walk: one application.) -/
theorem Tryd.strings_Repeat (s : ByteArray) (c : Nat) (w : World) (hc : c ≤ 9223372036854775807) (hlen : s.size * c ≤ 140737488355328) :
    Calls Tryd.prog 39 #[.string s, .int .i64 c] w fun e w' => e = .returned (.string ⟨(Lib.repeatL s.data.toList c).toArray⟩) ∧ Below w.heap.size w w' := Any.strings_Repeat Tryd.lays105 Tryd.Builder_Extra_105 s c w hc hlen
end Go.Proofs
