/-
  DERIVED: THE SHELF's CONTRACTS AT THIS DUMP, IN PLAIN WORDS (tools/lay-plain.mjs out of 'YtccgpblecgapaaaDoorShelfA.lean', which tools/lay-shelf.mjs wrote): THE SAME DECLARATIONS UNDER THE SAME NAMES: 'import', 'namespace', 'open', 'def', 'theorem' AND NOTHING ELSE: no command of the shelf's: FOR A HAND-IN. Each laying: the table of numbers ('.._ren') and one theorem, a field a fact of the dump's own or the kernel's comparison; each contract: ONE APPLICATION.
-/
import Derived.Shelf.LaysM
import Derived.Shelf.Bytes.Bytes
import Derived.Shelf.Bytes.WriteAny
import Derived.Ground.Names2Prog
import Derived.Test.YtccgpblecgapaaaDoorProg
namespace Go.Proofs
open Go.Shelf
def Tryd.laysM183_ren : Go.Shelf.Ren := ⟨fun | 183 => 55 | n => n, fun | 130 => 110 | 37 => 23 | 0 => 0 | 93 => 95 | 3 => 3 | 5 => 5 | 91 => 93 | n => n, fun | n => n⟩
theorem Tryd.laysM183 : Go.Proofs.LaysM.n183 Tryd.prog Tryd.laysM183_ren := {
  mixed := by kernel_rfl
  f183 := Tryd.func55.trans (congrArg some (by kernel_rfl))
  t0 := Tryd.underlying0
  a0 := Tryd.isAgg0
  z0 := Tryd.sizeOf0
  v0 := Tryd.zeroValue0
  t3 := Tryd.underlying3
  a3 := Tryd.isAgg3
  z3 := Tryd.sizeOf3
  v3 := Tryd.zeroValue3
  t37 := Tryd.underlying23
  a37 := Tryd.isAgg23
  z37 := Tryd.sizeOf23
  v37 := Tryd.zeroValue23
  t93 := Tryd.underlying95
  a93 := Tryd.isAgg95
  z93 := Tryd.sizeOf95
  v93 := Tryd.zeroValue95
  t130 := Tryd.underlying110
  a130 := Tryd.isAgg110
  z130 := Tryd.sizeOf110
  v130 := Tryd.zeroValue110
  t5 := Tryd.underlying5
  a5 := Tryd.isAgg5
  z5 := Tryd.sizeOf5
  v5 := Tryd.zeroValue5
  t91 := Tryd.underlying93
  a91 := Tryd.isAgg93
  z91 := Tryd.sizeOf93
  v91 := Tryd.zeroValue93
  i0 := by kernel_rfl
  i3 := by kernel_rfl
  i5 := by kernel_rfl
  i37 := by kernel_rfl
  i91 := by kernel_rfl
  i93 := by kernel_rfl
  i130 := by kernel_rfl }
def Tryd.laysM180_ren : Go.Shelf.Ren := ⟨fun | 180 => 54 | 251 => 66 | 252 => 67 | 181 => 74 | 184 => 75 | 290 => 76 | 324 => 90 | n => n, fun | 130 => 110 | 37 => 23 | 3 => 3 | 75 => 98 | 0 => 0 | 93 => 95 | 91 => 93 | 131 => 111 | 4 => 4 | 20 => 20 | 5 => 5 | 80 => 141 | 9 => 9 | n => n, fun | 14 => 0 | n => n⟩
theorem Tryd.laysM180 : Go.Proofs.LaysM.n180 Tryd.prog Tryd.laysM180_ren := {
  mixed := by kernel_rfl
  f180 := Tryd.func54.trans (congrArg some (by kernel_rfl))
  f181 := Tryd.func74.trans (congrArg some (by kernel_rfl))
  f184 := Tryd.func75.trans (congrArg some (by kernel_rfl))
  f251 := Tryd.func66.trans (congrArg some (by kernel_rfl))
  f252 := Tryd.func67.trans (congrArg some (by kernel_rfl))
  f290 := Tryd.func76.trans (congrArg some (by kernel_rfl))
  f324 := Tryd.func90.trans (congrArg some (by kernel_rfl))
  t0 := Tryd.underlying0
  a0 := Tryd.isAgg0
  z0 := Tryd.sizeOf0
  v0 := Tryd.zeroValue0
  t3 := Tryd.underlying3
  a3 := Tryd.isAgg3
  z3 := Tryd.sizeOf3
  v3 := Tryd.zeroValue3
  t4 := Tryd.underlying4
  a4 := Tryd.isAgg4
  z4 := Tryd.sizeOf4
  v4 := Tryd.zeroValue4
  t20 := Tryd.underlying20
  a20 := Tryd.isAgg20
  z20 := Tryd.sizeOf20
  v20 := Tryd.zeroValue20
  t37 := Tryd.underlying23
  a37 := Tryd.isAgg23
  z37 := Tryd.sizeOf23
  v37 := Tryd.zeroValue23
  t75 := Tryd.underlying98
  a75 := Tryd.isAgg98
  z75 := Tryd.sizeOf98
  v75 := Tryd.zeroValue98
  t91 := Tryd.underlying93
  a91 := Tryd.isAgg93
  z91 := Tryd.sizeOf93
  v91 := Tryd.zeroValue93
  t93 := Tryd.underlying95
  a93 := Tryd.isAgg95
  z93 := Tryd.sizeOf95
  v93 := Tryd.zeroValue95
  t130 := Tryd.underlying110
  a130 := Tryd.isAgg110
  z130 := Tryd.sizeOf110
  v130 := Tryd.zeroValue110
  t131 := Tryd.underlying111
  a131 := Tryd.isAgg111
  z131 := Tryd.sizeOf111
  v131 := Tryd.zeroValue111
  g14 := by kernel_rfl
  t5 := Tryd.underlying5
  a5 := Tryd.isAgg5
  z5 := Tryd.sizeOf5
  v5 := Tryd.zeroValue5
  t9 := Tryd.underlying9
  a9 := Tryd.isAgg9
  z9 := Tryd.sizeOf9
  v9 := Tryd.zeroValue9
  t80 := Tryd.underlying141
  a80 := Tryd.isAgg141
  z80 := Tryd.sizeOf141
  v80 := Tryd.zeroValue141
  i0 := by kernel_rfl
  i3 := by kernel_rfl
  i4 := by kernel_rfl
  i5 := by kernel_rfl
  i9 := by kernel_rfl
  i20 := by kernel_rfl
  i37 := by kernel_rfl
  i75 := by kernel_rfl
  i80 := by kernel_rfl
  i91 := by kernel_rfl
  i93 := by kernel_rfl
  i130 := by kernel_rfl
  i131 := by kernel_rfl
  m14 := by kernel_rfl }
end Go.Proofs
