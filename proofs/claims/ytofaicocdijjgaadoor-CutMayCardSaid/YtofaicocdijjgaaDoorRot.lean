import Derived.Test.YtofaicocdijjgaaDoorFill
namespace Go.Proofs.YtofaicocdijjgaaDoor
open Go.RowKit Go.Proofs.YtofaicocdijjgaaDoorW.PrintWords

/-- a word turned round to the left, in the walk's own form -/
def rot (x : Int) (s : Nat) : Int := bits .or .u32 (x * 2 ^ s % 4294967296) (x / 2 ^ (32 - s))

theorem rot_calls (x : Int) (k : Int) (s : Nat) (hs : s < 32) (hk : bits .and .u64 (IntKind.u64.wrap k) 31 = (s : Int)) (h0 : 0 ≤ x) (h1 : x < 4294967296) (w : World) :
    Calls Tryd.prog 50 #[.int .u32 x, .int .i64 k] w fun e w' => e = .returned (.int .u32 (rot x s)) ∧ w = w' := by
  go_enter Tryd.func50, Tryd.ntmps50
  go_wp2
  go_ret
  exact ⟨rfl, rfl⟩
theorem or32_range (a b : Int) : 0 ≤ bits .or .u32 a b ∧ bits .or .u32 a b < 4294967296 := by
  show 0 ≤ IntKind.u32.wrap _ ∧ IntKind.u32.wrap _ < 4294967296
  rw [IntKind.wrap_u32]
  omega
theorem rot_range (x : Int) (s : Nat) : 0 ≤ rot x s ∧ rot x s < 4294967296 := or32_range _ _
theorem word_range (k : Nat) : 0 ≤ word k ∧ word k < 4294967296 := xst_range _
end Go.Proofs.YtofaicocdijjgaaDoor
