/- ExpressDeep in plain words: kinds 3, 4. -/
import Derived.Test.YtjdcicopjipmnaaDoorTwo
namespace Go.Proofs.YtjdcicopjipmnaaDoor
open Go.RowKit
set_option maxRecDepth 100000 in
theorem deep_all30 : ((List.range 20).all fun m => deepOk 3 (m + 1)) = true := by kernel_rfl
set_option maxRecDepth 100000 in
theorem deep_all31 : ((List.range 20).all fun m => deepOk 3 (m + 21)) = true := by kernel_rfl
set_option maxRecDepth 100000 in
theorem deep_all32 : ((List.range 20).all fun m => deepOk 3 (m + 41)) = true := by kernel_rfl
set_option maxRecDepth 100000 in
theorem deep_all33 : ((List.range 20).all fun m => deepOk 3 (m + 61)) = true := by kernel_rfl
set_option maxRecDepth 100000 in
theorem deep_all40 : ((List.range 20).all fun m => deepOk 4 (m + 1)) = true := by kernel_rfl
set_option maxRecDepth 100000 in
theorem deep_all41 : ((List.range 20).all fun m => deepOk 4 (m + 21)) = true := by kernel_rfl
set_option maxRecDepth 100000 in
theorem deep_all42 : ((List.range 20).all fun m => deepOk 4 (m + 41)) = true := by kernel_rfl
set_option maxRecDepth 100000 in
theorem deep_all43 : ((List.range 20).all fun m => deepOk 4 (m + 61)) = true := by kernel_rfl
end Go.Proofs.YtjdcicopjipmnaaDoor
