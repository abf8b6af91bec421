import Derived.Test.YtddcnopjjihmcaaGreatH1
set_option linter.unusedVariables false
set_option maxRecDepth 100000
namespace Go.Ev.G
open Go.Ev
/-- the chapter's example -/
theorem lives_run : valB (.bool true) (F.callF tab prim1 200 (.fn p10) [] mt) = true := by kernel_rfl
def prim2 : Pos → Option (Prim Empty) := addPrim prim1 p10 (pureP [] (.bool true))
theorem prim2_ok [V : SymV] : PrimOk Go.Proofs.Tryz.prog R0 prim2 := morePure prim1_ok (g := 10) (by kernel_rfl) lives_run rfl rfl
end Go.Ev.G
