/- Methods. -/
import Derived.Test.YtokbomdlodainaaGreatDoorProg
import Derived.Test.YtokbomdlodainaaGreatDoorVeB
import Derived.KernelRfl
set_option linter.all false
open Go Go.Proofs Go.Ve
set_option maxRecDepth 100000
namespace Go.Proofs.Tryz.Vc
def methL : List (String × TypeId × FuncId) := [("carrel/check.named", 76, 295), ("carrel/check.named", 103, 296), ("carrel/check.named", 134, 297), ("carrel/check.named", 152, 298), ("carrel/check.named", 157, 299), ("carrel/check.named", 187, 300)]
def meth : String → List (TypeId × FuncId) := fun s => if s = "carrel/check.named" then [(76, 295), (103, 296), (134, 297), (152, 298), (157, 299), (187, 300)] else []
theorem m0_76 (x : Value) (w : World) : (method (Tryz.prog.types.size + Made.depth) 76 x "carrel/check.named").run Tryz.prog w = .ok (295, x) w := by kernel_rfl
theorem m0_103 (x : Value) (w : World) : (method (Tryz.prog.types.size + Made.depth) 103 x "carrel/check.named").run Tryz.prog w = .ok (296, x) w := by kernel_rfl
theorem m0_134 (x : Value) (w : World) : (method (Tryz.prog.types.size + Made.depth) 134 x "carrel/check.named").run Tryz.prog w = .ok (297, x) w := by kernel_rfl
theorem m0_152 (x : Value) (w : World) : (method (Tryz.prog.types.size + Made.depth) 152 x "carrel/check.named").run Tryz.prog w = .ok (298, x) w := by kernel_rfl
theorem m0_157 (x : Value) (w : World) : (method (Tryz.prog.types.size + Made.depth) 157 x "carrel/check.named").run Tryz.prog w = .ok (299, x) w := by kernel_rfl
theorem m0_187 (x : Value) (w : World) : (method (Tryz.prog.types.size + Made.depth) 187 x "carrel/check.named").run Tryz.prog w = .ok (300, x) w := by kernel_rfl
theorem meth_ok : MethOk Tryz.prog meth := by
  intro name t f h x w
  unfold meth at h
  split at h
  · rename_i e; subst e
    simp only [findT] at h
    split at h
    · rename_i e; subst e; cases h; exact m0_76 x w
    split at h
    · rename_i e; subst e; cases h; exact m0_103 x w
    split at h
    · rename_i e; subst e; cases h; exact m0_134 x w
    split at h
    · rename_i e; subst e; cases h; exact m0_152 x w
    split at h
    · rename_i e; subst e; cases h; exact m0_157 x w
    split at h
    · rename_i e; subst e; cases h; exact m0_187 x w
    cases h
  cases h
end Go.Proofs.Tryz.Vc
