/- The library's sort at uint64: its comparison. -/
import Derived.Test.YtmagpdbnefbfkaaKit
import Derived.Test.YtmagpdbnefbfkaaProg
import Derived.Sort.Walk0
namespace Go.Proofs.Ytmagpdbnefbfkaa
open Go Go.RowKit Go.Sort

set_option maxHeartbeats 1000000 in
theorem Try.cmp_isNaN_u64 (x : Int) (w : World) : Calls Try.prog 50 #[.int .u64 x] w fun e w' => e = .returned (.bool false) ∧ w' = w := by
  go_enter Try.func50, Try.ntmps50
  go_wp2
  go_ret
  exact ⟨by simp, rfl⟩

set_option maxHeartbeats 1000000 in
/-- cmp.Less[int]: IT RETURNS 'Sort.ltInt x y'; the world is as it was. -/
theorem Try.cmp_Less_u64 (x y : Int) (w : World) : Calls Try.prog 40 #[.int .u64 x, .int .u64 y] w fun e w' => e = .returned (.bool (Sort.ltInt x y)) ∧ w' = w := by
  go_enter Try.func40, Try.ntmps40
  go_wp2_with (go_at_call 50; refine (Try.cmp_isNaN_u64 _ _).mono ?_; rintro e w' ⟨rfl, rfl⟩)
  go_ret
  exact ⟨rfl, rfl⟩

end Go.Proofs.Ytmagpdbnefbfkaa
