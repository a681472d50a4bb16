/-
  DERIVED: THE SHELF's CONTRACTS AT THIS DUMP, IN PLAIN WORDS (tools/lay-plain.mjs out of 'TryzShlf.lean', which tools/lay-shelf.mjs wrote): THE SAME DECLARATIONS UNDER THE SAME NAMES: 'import', 'namespace', 'open', 'def', 'theorem' AND NOTHING ELSE: no command of the shelf's: FOR A HAND-IN. Each laying: the table of numbers ('.._ren') and one theorem, a field a fact of the dump's own or the kernel's comparison; each contract: ONE APPLICATION.
-/
import Derived.Shelf.SlGeneric
import Derived.Test.YtffjcehopoaboaaGreatDoorProg
import Derived.Shelf.SlSortCmp.WholeK
import Derived.Shelf.SlSortCmp.NoneTotal
import Derived.Ground.SlsfProg
import Derived.Shelf.Strings.BuilderK
import Derived.Ground.NamesProg
namespace Go.Proofs
open Go.Shelf
def Tryz.sortE_ren : Go.Shelf.Ren := ⟨fun | 6 => 163 | 15 => 189 | 14 => 188 | 28 => 211 | 29 => 212 | 20 => 203 | 21 => 204 | 22 => 205 | 23 => 206 | 24 => 207 | 25 => 208 | 26 => 209 | 27 => 210 | 46 => 219 | 47 => 220 | 48 => 221 | 49 => 222 | 50 => 223 | 57 => 227 | n => n, fun | 22 => 22 | 24 => 82 | 25 => 210 | 3 => 3 | 39 => 220 | 0 => 0 | 53 => 279 | 55 => 89 | 4 => 4 | 46 => 273 | 45 => 272 | 50 => 154 | 5 => 5 | 9 => 9 | 66 => 291 | 70 => 295 | 76 => 301 | 77 => 302 | n => n, fun | n => n⟩
theorem Tryz.sortE : Go.Proofs.SlLaysF0.n6 Tryz.prog Tryz.sortE_ren := {
  mixed := by kernel_rfl
  f6 := ⟨Tryz.f163.name, by decide, Tryz.func163.trans (congrArg some (by kernel_rfl))⟩
  f14 := ⟨Tryz.f188.name, by decide, Tryz.func188.trans (congrArg some (by kernel_rfl))⟩
  f15 := Tryz.func189.trans (congrArg some (by kernel_rfl))
  f20 := ⟨Tryz.f203.name, by decide, Tryz.func203.trans (congrArg some (by kernel_rfl))⟩
  f21 := ⟨Tryz.f204.name, by decide, Tryz.func204.trans (congrArg some (by kernel_rfl))⟩
  f22 := ⟨Tryz.f205.name, by decide, Tryz.func205.trans (congrArg some (by kernel_rfl))⟩
  f23 := ⟨Tryz.f206.name, by decide, Tryz.func206.trans (congrArg some (by kernel_rfl))⟩
  f24 := ⟨Tryz.f207.name, by decide, Tryz.func207.trans (congrArg some (by kernel_rfl))⟩
  f25 := ⟨Tryz.f208.name, by decide, Tryz.func208.trans (congrArg some (by kernel_rfl))⟩
  f26 := ⟨Tryz.f209.name, by decide, Tryz.func209.trans (congrArg some (by kernel_rfl))⟩
  f27 := ⟨Tryz.f210.name, by decide, Tryz.func210.trans (congrArg some (by kernel_rfl))⟩
  f28 := Tryz.func211.trans (congrArg some (by kernel_rfl))
  f29 := Tryz.func212.trans (congrArg some (by kernel_rfl))
  f46 := ⟨Tryz.f219.name, by decide, Tryz.func219.trans (congrArg some (by kernel_rfl))⟩
  f47 := Tryz.func220.trans (congrArg some (by kernel_rfl))
  f48 := Tryz.func221.trans (congrArg some (by kernel_rfl))
  f49 := ⟨Tryz.f222.name, by decide, Tryz.func222.trans (congrArg some (by kernel_rfl))⟩
  f50 := ⟨Tryz.f223.name, by decide, Tryz.func223.trans (congrArg some (by kernel_rfl))⟩
  f57 := ⟨Tryz.f227.name, by decide, Tryz.func227.trans (congrArg some (by kernel_rfl))⟩
  t0 := Tryz.underlying0
  a0 := Tryz.isAgg0
  z0 := Tryz.sizeOf0
  v0 := Tryz.zeroValue0
  t3 := Tryz.underlying3
  a3 := Tryz.isAgg3
  z3 := Tryz.sizeOf3
  v3 := Tryz.zeroValue3
  t4 := Tryz.underlying4
  a4 := Tryz.isAgg4
  z4 := Tryz.sizeOf4
  v4 := Tryz.zeroValue4
  t5 := Tryz.underlying5
  a5 := Tryz.isAgg5
  z5 := Tryz.sizeOf5
  v5 := Tryz.zeroValue5
  t9 := Tryz.underlying9
  a9 := Tryz.isAgg9
  z9 := Tryz.sizeOf9
  v9 := Tryz.zeroValue9
  t22 := Tryz.underlying22
  a22 := Tryz.isAgg22
  z22 := Tryz.sizeOf22
  v22 := Tryz.zeroValue22
  t25 := Tryz.underlying210
  a25 := Tryz.isAgg210
  z25 := Tryz.sizeOf210
  v25 := Tryz.zeroValue210
  t39 := Tryz.underlying220
  a39 := Tryz.isAgg220
  z39 := Tryz.sizeOf220
  v39 := Tryz.zeroValue220
  t45 := Tryz.underlying272
  a45 := Tryz.isAgg272
  z45 := Tryz.sizeOf272
  v45 := Tryz.zeroValue272
  t46 := Tryz.underlying273
  a46 := Tryz.isAgg273
  z46 := Tryz.sizeOf273
  v46 := Tryz.zeroValue273
  t50 := Tryz.underlying154
  a50 := Tryz.isAgg154
  z50 := Tryz.sizeOf154
  v50 := Tryz.zeroValue154
  t53 := Tryz.underlying279
  a53 := Tryz.isAgg279
  z53 := Tryz.sizeOf279
  v53 := Tryz.zeroValue279
  t55 := Tryz.underlying89
  a55 := Tryz.isAgg89
  z55 := Tryz.sizeOf89
  v55 := Tryz.zeroValue89
  t66 := Tryz.underlying291
  a66 := Tryz.isAgg291
  z66 := Tryz.sizeOf291
  v66 := Tryz.zeroValue291
  t70 := Tryz.underlying295
  a70 := Tryz.isAgg295
  z70 := Tryz.sizeOf295
  v70 := Tryz.zeroValue295
  t76 := Tryz.underlying301
  a76 := Tryz.isAgg301
  z76 := Tryz.sizeOf301
  v76 := Tryz.zeroValue301
  t77 := Tryz.underlying302
  a77 := Tryz.isAgg302
  z77 := Tryz.sizeOf302
  v77 := Tryz.zeroValue302 }
def Tryz.strS_ren : Go.Shelf.Ren := ⟨fun | 169 => 181 | n => n, fun | 70 => 231 | 9 => 9 | 0 => 0 | 72 => 233 | 37 => 225 | 127 => 265 | 3 => 3 | 5 => 5 | n => n, fun | n => n⟩
theorem Tryz.strS : Go.Proofs.Lays.n169 Tryz.prog Tryz.strS_ren := {
  mixed := by kernel_rfl
  f169 := Tryz.func181.trans (congrArg some (by kernel_rfl))
  t0 := Tryz.underlying0
  a0 := Tryz.isAgg0
  z0 := Tryz.sizeOf0
  v0 := Tryz.zeroValue0
  t3 := Tryz.underlying3
  a3 := Tryz.isAgg3
  z3 := Tryz.sizeOf3
  v3 := Tryz.zeroValue3
  t9 := Tryz.underlying9
  a9 := Tryz.isAgg9
  z9 := Tryz.sizeOf9
  v9 := Tryz.zeroValue9
  t37 := Tryz.underlying225
  a37 := Tryz.isAgg225
  z37 := Tryz.sizeOf225
  v37 := Tryz.zeroValue225
  t70 := Tryz.underlying231
  a70 := Tryz.isAgg231
  z70 := Tryz.sizeOf231
  v70 := Tryz.zeroValue231
  t72 := Tryz.underlying233
  a72 := Tryz.isAgg233
  z72 := Tryz.sizeOf233
  v72 := Tryz.zeroValue233
  t127 := Tryz.underlying265
  a127 := Tryz.isAgg265
  z127 := Tryz.sizeOf265
  v127 := Tryz.zeroValue265 }
end Go.Proofs
