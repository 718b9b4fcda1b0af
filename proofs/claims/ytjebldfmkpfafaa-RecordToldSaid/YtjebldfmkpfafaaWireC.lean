/- Layer 3: what head and Size do. -/
import Derived.Test.YtjebldfmkpfafaaBase
import Derived.Test.YtjebldfmkpfafaaWirePure
import Derived.Test.YtjebldfmkpfafaaShelf
import Derived.WalkLawsBesides
namespace Go.Proofs.Ytjebldfmkpfafaa
open Go.RowKit
set_option maxRecDepth 100000

theorem head_any (n : Int) (w : World) (h1 : 1 ≤ n) (h2 : n ≤ 9) :
    Calls Try.prog 69 #[.int .i64 n] w fun r w' => r = .returned (.int .u8 (vhd n.toNat)) ∧ w = w' := by
  rcases (show n = 1 ∨ n = 2 ∨ n = 3 ∨ n = 4 ∨ n = 5 ∨ n = 6 ∨ n = 7 ∨ n = 8 ∨ n = 9 by omega) with h | h | h | h | h | h | h | h | h
  all_goals
    subst h
    go_enter Try.func69, Try.ntmps69
    go_wp2
    go_ret
    exact ⟨rfl, rfl⟩

theorem size_any (x : Nat) (w : World) (hx : x ≤ 18446744073709551615) :
    Calls Try.prog 67 #[.int .u64 x] w fun r w' => r = .returned (.int .i64 (vsz x)) ∧ w = w' := by
  have hb := Go.Lib.bitLen_le x 64 (by omega) (by omega)
  go_enter Try.func67, Try.ntmps67
  go_wp2_with (go_at_call 87; refine (Try.bits_Len64 (x : Int) _ (by omega) (by omega)).mono ?_; rintro e w' ⟨rfl, rfl⟩)
  go_ret
  exact ⟨ret_int (by unfold vsz; omega), rfl⟩
end Go.Proofs.Ytjebldfmkpfafaa
