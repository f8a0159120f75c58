/-
  Layer 1 (text): the chapter's example, carried out by the kernel.
-/
import Derived.Test.YtecokfbldjekiaaTxA
import Derived.Test.YtecokfbldjekiaaLiD
namespace Go.Proofs.Ytecokfbldjekiaa.LI
open Go Go.RowKit
set_option maxRecDepth 100000
theorem may1 : runD Try.prog th 1000 (.call 12 [.sc (.string ⟨#[120]⟩)]) = some ⟨.normal, .sc (.bool true), default, {}⟩ := by kernel_rfl
theorem name1 : runD Try.prog th 1000 (.call 11 [.sc (.string ⟨#[97, 46, 49]⟩)]) = some ⟨.normal, .sc (.bool true), default, {}⟩ := by kernel_rfl
theorem f8 : run Try.prog th (.call 8 []) = some ⟨.normal, .sc (.bool true), default, {}⟩ := runD_run 1000 _ _ (by kernel_rfl)
end Go.Proofs.Ytecokfbldjekiaa.LI
