/- The fixed fact of the statements, in plain numbers: format, open, checkpoint, append, commit, append, crash, open. -/
import Derived.Test.YtccgpblecgapaaaDoorOpn
import Derived.Test.YtccgpblecgapaaaDoorCrw
set_option linter.unusedSimpArgs false
set_option linter.unusedVariables false
namespace Gd

def awD1 : Dk := ((Dk.new 30).format 3 [115]).1
def awJ1 : Jn := ⟨3, 10, 1, 0, 0, 0, false, false⟩
def awC : Dk × Jn × Int := awJ1.checkpoint awD1 [116]
def awA : Dk × Jn × Int := awC.2.1.append awC.1 [97]
def awF : Dk × Jn × Int := awA.2.1.commit awA.1
def awG : Dk × Jn × Int := awF.2.1.append awF.1 [98]
def awD6 : Dk := awG.1.crash 0 (-1) 0
def awJ6 : Jn := ⟨3, 10, 2, 1, 1, 1, false, false⟩
set_option maxRecDepth 100000 in
theorem aw_format : ((Dk.new 30).format 3 [115]).2 = 0 := by kernel_rfl
set_option maxRecDepth 100000 in
theorem aw_open1 : awD1.opened 3 10 = some (awJ1, [115], []) := by kernel_rfl
set_option maxRecDepth 100000 in
theorem aw_early : awJ1.append awD1 [120] = (awD1, awJ1, 9) := by kernel_rfl
set_option maxRecDepth 100000 in
theorem aw_check : awC.2.2 = 0 ∧ awC.2.1 = ⟨3, 10, 2, 0, 1, 0, true, false⟩ := ⟨by kernel_rfl, by kernel_rfl⟩
set_option maxRecDepth 100000 in
theorem aw_append : awA.2.2 = 0 ∧ awA.2.1 = ⟨3, 10, 2, 1, 1, 1, true, false⟩ := ⟨by kernel_rfl, by kernel_rfl⟩
set_option maxRecDepth 100000 in
theorem aw_commit : awF.2.2 = 0 ∧ awF.2.1 = ⟨3, 10, 2, 1, 1, 1, true, false⟩ := ⟨by kernel_rfl, by kernel_rfl⟩
set_option maxRecDepth 100000 in
theorem aw_append2 : awG.2.2 = 0 := by kernel_rfl
set_option maxRecDepth 100000 in
theorem aw_open2 : awD6.opened 3 10 = some (awJ6, [116], [[97]]) := by kernel_rfl
end Gd
