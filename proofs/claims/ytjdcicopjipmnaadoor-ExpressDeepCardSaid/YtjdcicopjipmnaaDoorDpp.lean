/- ExpressDeep in plain words: kinds 0, 1, 2. -/
import Derived.Test.YtjdcicopjipmnaaDoorTwo
namespace Go.Proofs.YtjdcicopjipmnaaDoor
open Go.RowKit
set_option maxRecDepth 100000 in
theorem deep_all00 : ((List.range 20).all fun m => deepOk 0 (m + 1)) = true := by kernel_rfl
set_option maxRecDepth 100000 in
theorem deep_all01 : ((List.range 20).all fun m => deepOk 0 (m + 21)) = true := by kernel_rfl
set_option maxRecDepth 100000 in
theorem deep_all02 : ((List.range 20).all fun m => deepOk 0 (m + 41)) = true := by kernel_rfl
set_option maxRecDepth 100000 in
theorem deep_all03 : ((List.range 20).all fun m => deepOk 0 (m + 61)) = true := by kernel_rfl
set_option maxRecDepth 100000 in
theorem deep_all10 : ((List.range 20).all fun m => deepOk 1 (m + 1)) = true := by kernel_rfl
set_option maxRecDepth 100000 in
theorem deep_all11 : ((List.range 20).all fun m => deepOk 1 (m + 21)) = true := by kernel_rfl
set_option maxRecDepth 100000 in
theorem deep_all12 : ((List.range 20).all fun m => deepOk 1 (m + 41)) = true := by kernel_rfl
set_option maxRecDepth 100000 in
theorem deep_all13 : ((List.range 20).all fun m => deepOk 1 (m + 61)) = true := by kernel_rfl
set_option maxRecDepth 100000 in
theorem deep_all20 : ((List.range 20).all fun m => deepOk 2 (m + 1)) = true := by kernel_rfl
set_option maxRecDepth 100000 in
theorem deep_all21 : ((List.range 20).all fun m => deepOk 2 (m + 21)) = true := by kernel_rfl
set_option maxRecDepth 100000 in
theorem deep_all22 : ((List.range 20).all fun m => deepOk 2 (m + 41)) = true := by kernel_rfl
set_option maxRecDepth 100000 in
theorem deep_all23 : ((List.range 20).all fun m => deepOk 2 (m + 61)) = true := by kernel_rfl
end Go.Proofs.YtjdcicopjipmnaaDoor
