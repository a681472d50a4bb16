/-
  DERIVED: THE SHELF's CONTRACTS AT THIS DUMP, IN PLAIN WORDS (tools/lay-plain.mjs out of 'TryzShlf.lean', which tools/lay-shelf.mjs wrote): THE SAME DECLARATIONS UNDER THE SAME NAMES: 'import', 'namespace', 'open', 'def', 'theorem' AND NOTHING ELSE: no command of the shelf's: FOR A HAND-IN. Each laying: the table of numbers ('.._ren') and one theorem, a field a fact of the dump's own or the kernel's comparison; each contract: ONE APPLICATION.
-/
import Derived.Shelf.SlGeneric
import Derived.Test.YtbaccmlfnbgehaaGreatDoorProg
import Derived.Shelf.SlSortCmp.WholeK
import Derived.Shelf.SlSortCmp.NoneTotal
import Derived.Ground.SlsfProg
import Derived.Shelf.Strings.BuilderK
import Derived.Ground.NamesProg
namespace Go.Proofs
open Go.Shelf
def Tryz.sortE_ren : Go.Shelf.Ren := ⟨fun | 6 => 141 | 15 => 167 | 14 => 166 | 28 => 189 | 29 => 190 | 20 => 181 | 21 => 182 | 22 => 183 | 23 => 184 | 24 => 185 | 25 => 186 | 26 => 187 | 27 => 188 | 46 => 197 | 47 => 198 | 48 => 199 | 49 => 200 | 50 => 201 | 57 => 205 | n => n, fun | 22 => 22 | 24 => 71 | 25 => 186 | 3 => 3 | 39 => 196 | 0 => 0 | 53 => 253 | 55 => 78 | 4 => 4 | 46 => 247 | 45 => 246 | 50 => 140 | 5 => 5 | 9 => 9 | 66 => 265 | 70 => 269 | 76 => 275 | 77 => 276 | n => n, fun | n => n⟩
theorem Tryz.sortE : Go.Proofs.SlLaysF0.n6 Tryz.prog Tryz.sortE_ren := {
  mixed := by kernel_rfl
  f6 := ⟨Tryz.f141.name, by decide, Tryz.func141.trans (congrArg some (by kernel_rfl))⟩
  f14 := ⟨Tryz.f166.name, by decide, Tryz.func166.trans (congrArg some (by kernel_rfl))⟩
  f15 := Tryz.func167.trans (congrArg some (by kernel_rfl))
  f20 := ⟨Tryz.f181.name, by decide, Tryz.func181.trans (congrArg some (by kernel_rfl))⟩
  f21 := ⟨Tryz.f182.name, by decide, Tryz.func182.trans (congrArg some (by kernel_rfl))⟩
  f22 := ⟨Tryz.f183.name, by decide, Tryz.func183.trans (congrArg some (by kernel_rfl))⟩
  f23 := ⟨Tryz.f184.name, by decide, Tryz.func184.trans (congrArg some (by kernel_rfl))⟩
  f24 := ⟨Tryz.f185.name, by decide, Tryz.func185.trans (congrArg some (by kernel_rfl))⟩
  f25 := ⟨Tryz.f186.name, by decide, Tryz.func186.trans (congrArg some (by kernel_rfl))⟩
  f26 := ⟨Tryz.f187.name, by decide, Tryz.func187.trans (congrArg some (by kernel_rfl))⟩
  f27 := ⟨Tryz.f188.name, by decide, Tryz.func188.trans (congrArg some (by kernel_rfl))⟩
  f28 := Tryz.func189.trans (congrArg some (by kernel_rfl))
  f29 := Tryz.func190.trans (congrArg some (by kernel_rfl))
  f46 := ⟨Tryz.f197.name, by decide, Tryz.func197.trans (congrArg some (by kernel_rfl))⟩
  f47 := Tryz.func198.trans (congrArg some (by kernel_rfl))
  f48 := Tryz.func199.trans (congrArg some (by kernel_rfl))
  f49 := ⟨Tryz.f200.name, by decide, Tryz.func200.trans (congrArg some (by kernel_rfl))⟩
  f50 := ⟨Tryz.f201.name, by decide, Tryz.func201.trans (congrArg some (by kernel_rfl))⟩
  f57 := ⟨Tryz.f205.name, by decide, Tryz.func205.trans (congrArg some (by kernel_rfl))⟩
  t0 := Tryz.underlying0
  a0 := Tryz.isAgg0
  z0 := Tryz.sizeOf0
  v0 := Tryz.zeroValue0
  t3 := Tryz.underlying3
  a3 := Tryz.isAgg3
  z3 := Tryz.sizeOf3
  v3 := Tryz.zeroValue3
  t4 := Tryz.underlying4
  a4 := Tryz.isAgg4
  z4 := Tryz.sizeOf4
  v4 := Tryz.zeroValue4
  t5 := Tryz.underlying5
  a5 := Tryz.isAgg5
  z5 := Tryz.sizeOf5
  v5 := Tryz.zeroValue5
  t9 := Tryz.underlying9
  a9 := Tryz.isAgg9
  z9 := Tryz.sizeOf9
  v9 := Tryz.zeroValue9
  t22 := Tryz.underlying22
  a22 := Tryz.isAgg22
  z22 := Tryz.sizeOf22
  v22 := Tryz.zeroValue22
  t25 := Tryz.underlying186
  a25 := Tryz.isAgg186
  z25 := Tryz.sizeOf186
  v25 := Tryz.zeroValue186
  t39 := Tryz.underlying196
  a39 := Tryz.isAgg196
  z39 := Tryz.sizeOf196
  v39 := Tryz.zeroValue196
  t45 := Tryz.underlying246
  a45 := Tryz.isAgg246
  z45 := Tryz.sizeOf246
  v45 := Tryz.zeroValue246
  t46 := Tryz.underlying247
  a46 := Tryz.isAgg247
  z46 := Tryz.sizeOf247
  v46 := Tryz.zeroValue247
  t50 := Tryz.underlying140
  a50 := Tryz.isAgg140
  z50 := Tryz.sizeOf140
  v50 := Tryz.zeroValue140
  t53 := Tryz.underlying253
  a53 := Tryz.isAgg253
  z53 := Tryz.sizeOf253
  v53 := Tryz.zeroValue253
  t55 := Tryz.underlying78
  a55 := Tryz.isAgg78
  z55 := Tryz.sizeOf78
  v55 := Tryz.zeroValue78
  t66 := Tryz.underlying265
  a66 := Tryz.isAgg265
  z66 := Tryz.sizeOf265
  v66 := Tryz.zeroValue265
  t70 := Tryz.underlying269
  a70 := Tryz.isAgg269
  z70 := Tryz.sizeOf269
  v70 := Tryz.zeroValue269
  t76 := Tryz.underlying275
  a76 := Tryz.isAgg275
  z76 := Tryz.sizeOf275
  v76 := Tryz.zeroValue275
  t77 := Tryz.underlying276
  a77 := Tryz.isAgg276
  z77 := Tryz.sizeOf276
  v77 := Tryz.zeroValue276 }
def Tryz.strS_ren : Go.Shelf.Ren := ⟨fun | 169 => 158 | n => n, fun | 70 => 204 | 9 => 9 | 0 => 0 | 72 => 206 | 37 => 201 | 127 => 239 | 3 => 3 | 5 => 5 | n => n, fun | n => n⟩
theorem Tryz.strS : Go.Proofs.Lays.n169 Tryz.prog Tryz.strS_ren := {
  mixed := by kernel_rfl
  f169 := Tryz.func158.trans (congrArg some (by kernel_rfl))
  t0 := Tryz.underlying0
  a0 := Tryz.isAgg0
  z0 := Tryz.sizeOf0
  v0 := Tryz.zeroValue0
  t3 := Tryz.underlying3
  a3 := Tryz.isAgg3
  z3 := Tryz.sizeOf3
  v3 := Tryz.zeroValue3
  t9 := Tryz.underlying9
  a9 := Tryz.isAgg9
  z9 := Tryz.sizeOf9
  v9 := Tryz.zeroValue9
  t37 := Tryz.underlying201
  a37 := Tryz.isAgg201
  z37 := Tryz.sizeOf201
  v37 := Tryz.zeroValue201
  t70 := Tryz.underlying204
  a70 := Tryz.isAgg204
  z70 := Tryz.sizeOf204
  v70 := Tryz.zeroValue204
  t72 := Tryz.underlying206
  a72 := Tryz.isAgg206
  z72 := Tryz.sizeOf206
  v72 := Tryz.zeroValue206
  t127 := Tryz.underlying239
  a127 := Tryz.isAgg239
  z127 := Tryz.sizeOf239
  v127 := Tryz.zeroValue239 }
end Go.Proofs
