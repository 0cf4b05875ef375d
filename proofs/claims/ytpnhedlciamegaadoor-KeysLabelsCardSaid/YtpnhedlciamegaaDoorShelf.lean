/-
  DERIVED: THE SHELF's CONTRACTS AT THIS DUMP, IN PLAIN WORDS (tools/lay-plain.mjs out of 'SShelf.lean', which tools/lay-shelf.mjs wrote): THE SAME DECLARATIONS UNDER THE SAME NAMES: 'import', 'namespace', 'open', 'def', 'theorem' AND NOTHING ELSE: no command of the shelf's: FOR A HAND-IN. Each laying: the table of numbers ('.._ren') and one theorem, a field a fact of the dump's own or the kernel's comparison; each contract: ONE APPLICATION.
-/
import Derived.Shelf.Strings.Repeat
import Derived.Test.YtpnhedlciamegaaDoorProg
set_option linter.all false
set_option linter.unusedVariables false
set_option linter.unusedSimpArgs false
set_option linter.unnecessarySimpa false
set_option linter.deprecated false
namespace Go.Proofs
open Go.Shelf
def Tryd.lays105_ren : Go.Shelf.Ren := ⟨fun | 105 => 105 | 212 => 118 | 99 => 119 | 165 => 120 | 166 => 96 | 170 => 121 | 169 => 73 | 263 => 126 | 264 => 127 | 206 => 128 | 240 => 95 | 241 => 129 | 276 => 111 | 277 => 132 | n => n, fun | 9 => 9 | 3 => 3 | 4 => 4 | 20 => 20 | 0 => 0 | 46 => 136 | 109 => 188 | 5 => 5 | 72 => 118 | 76 => 159 | 51 => 143 | 146 => 194 | 53 => 22 | 148 => 196 | 70 => 116 | 37 => 76 | 75 => 123 | 127 => 161 | 164 => 181 | 80 => 85 | n => n, fun | n => n⟩
theorem Tryd.lays105 : Go.Proofs.Lays.n105 Tryd.prog Tryd.lays105_ren := {
  mixed := by kernel_rfl
  f99 := Tryd.func119.trans (congrArg some (by kernel_rfl))
  f105 := Tryd.func105.trans (congrArg some (by kernel_rfl))
  f165 := Tryd.func120.trans (congrArg some (by kernel_rfl))
  f166 := Tryd.func96.trans (congrArg some (by kernel_rfl))
  f169 := Tryd.func73.trans (congrArg some (by kernel_rfl))
  f170 := Tryd.func121.trans (congrArg some (by kernel_rfl))
  f206 := Tryd.func128.trans (congrArg some (by kernel_rfl))
  f212 := Tryd.func118.trans (congrArg some (by kernel_rfl))
  f240 := Tryd.func95.trans (congrArg some (by kernel_rfl))
  f241 := Tryd.func129.trans (congrArg some (by kernel_rfl))
  f263 := Tryd.func126.trans (congrArg some (by kernel_rfl))
  f264 := Tryd.func127.trans (congrArg some (by kernel_rfl))
  f276 := Tryd.func111.trans (congrArg some (by kernel_rfl))
  f277 := Tryd.func132.trans (congrArg some (by kernel_rfl))
  t0 := Tryd.underlying0
  a0 := Tryd.isAgg0
  z0 := Tryd.sizeOf0
  v0 := Tryd.zeroValue0
  t3 := Tryd.underlying3
  a3 := Tryd.isAgg3
  z3 := Tryd.sizeOf3
  v3 := Tryd.zeroValue3
  t4 := Tryd.underlying4
  a4 := Tryd.isAgg4
  z4 := Tryd.sizeOf4
  v4 := Tryd.zeroValue4
  t5 := Tryd.underlying5
  a5 := Tryd.isAgg5
  z5 := Tryd.sizeOf5
  v5 := Tryd.zeroValue5
  t9 := Tryd.underlying9
  a9 := Tryd.isAgg9
  z9 := Tryd.sizeOf9
  v9 := Tryd.zeroValue9
  t20 := Tryd.underlying20
  a20 := Tryd.isAgg20
  z20 := Tryd.sizeOf20
  v20 := Tryd.zeroValue20
  t37 := Tryd.underlying76
  a37 := Tryd.isAgg76
  z37 := Tryd.sizeOf76
  v37 := Tryd.zeroValue76
  t46 := Tryd.underlying136
  a46 := Tryd.isAgg136
  z46 := Tryd.sizeOf136
  v46 := Tryd.zeroValue136
  t51 := Tryd.underlying143
  a51 := Tryd.isAgg143
  z51 := Tryd.sizeOf143
  v51 := Tryd.zeroValue143
  t53 := Tryd.underlying22
  a53 := Tryd.isAgg22
  z53 := Tryd.sizeOf22
  v53 := Tryd.zeroValue22
  t70 := Tryd.underlying116
  a70 := Tryd.isAgg116
  z70 := Tryd.sizeOf116
  v70 := Tryd.zeroValue116
  t72 := Tryd.underlying118
  a72 := Tryd.isAgg118
  z72 := Tryd.sizeOf118
  v72 := Tryd.zeroValue118
  t75 := Tryd.underlying123
  a75 := Tryd.isAgg123
  z75 := Tryd.sizeOf123
  v75 := Tryd.zeroValue123
  t76 := Tryd.underlying159
  a76 := Tryd.isAgg159
  z76 := Tryd.sizeOf159
  v76 := Tryd.zeroValue159
  t109 := Tryd.underlying188
  a109 := Tryd.isAgg188
  z109 := Tryd.sizeOf188
  v109 := Tryd.zeroValue188
  t127 := Tryd.underlying161
  a127 := Tryd.isAgg161
  z127 := Tryd.sizeOf161
  v127 := Tryd.zeroValue161
  t146 := Tryd.underlying194
  a146 := Tryd.isAgg194
  z146 := Tryd.sizeOf194
  v146 := Tryd.zeroValue194
  t148 := Tryd.underlying196
  a148 := Tryd.isAgg196
  z148 := Tryd.sizeOf196
  v148 := Tryd.zeroValue196
  t164 := Tryd.underlying181
  a164 := Tryd.isAgg181
  z164 := Tryd.sizeOf181
  v164 := Tryd.zeroValue181 }
theorem Tryd.Builder_Extra_105 : Builder.Extra Tryd.prog Tryd.lays105_ren := {
  sizeBuilder := by kernel_rfl
  liesBuilder := by kernel_rfl
  t5 := Tryd.underlying5
  a5 := Tryd.isAgg5
  z5 := Tryd.sizeOf5
  v5 := Tryd.zeroValue5
  infoByte := by kernel_rfl
  cellsByte := by kernel_rfl
  sizeByte := by kernel_rfl
  neB5 := by decide }
open Go.RowKit Go.Lib in
/-- **strings.Repeat: count ≥ 0, the result within one allocation: count copies of s.** (LAID: no walk: one application.) -/
theorem Tryd.strings_Repeat (s : ByteArray) (c : Nat) (w : World) (hc : c ≤ 9223372036854775807) (hlen : s.size * c ≤ 140737488355328) :
    Calls Tryd.prog 105 #[.string s, .int .i64 c] w fun e w' => e = .returned (.string ⟨(Lib.repeatL s.data.toList c).toArray⟩) ∧ Below w.heap.size w w' := Any.strings_Repeat Tryd.lays105 Tryd.Builder_Extra_105 s c w hc hlen
end Go.Proofs
