/- SlideNone: the walk. -/
import Derived.Test.YtooalgnppnmeaaaAwake12
namespace Go.Proofs.Ytooalgnppnmeaaa
open Go.RowKit

set_option maxRecDepth 100000 in
set_option maxHeartbeats 1000000 in
theorem slideNone_any (w : World) : Calls Try.prog 17 #[] w (RetYes w) := by
  go_enter Try.func17, Try.ntmps17
  go_wp2_with fail
  refine (awake12_any _).mono ?_
  rintro e w1 ⟨rfl, k1⟩
  have K1 := Lib.hid (k1.alloc (.cells #[.int .i64 0] 3))
  clear k1
  go_wp2_with fail
  refine (live_nil _ _).mono ?_
  rintro e w2 ⟨rfl, hw⟩
  have K2 := Lib.hid (hw ▸ K1.out : Kept No w w2)
  clear hw K1
  go_wp2_with fail
  refine (collect_nil _ _).mono ?_
  rintro e w3 ⟨rfl, rfl⟩
  go_wp2_with fail
  go_ret
  exact ⟨rfl, K2.out⟩
end Go.Proofs.Ytooalgnppnmeaaa
