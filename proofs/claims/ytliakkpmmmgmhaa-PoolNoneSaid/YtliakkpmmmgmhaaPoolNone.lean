/- The walk of PoolNone. -/
import Derived.Test.YtliakkpmmmgmhaaPoolLives
namespace Go.Proofs.Ytliakkpmmmgmhaa
open Go.RowKit
set_option maxRecDepth 100000 in
set_option maxHeartbeats 4000000 in
theorem poolNone_walk (n : Int) (A : Option Addr) (k c : Nat) (w : World) : Calls Try.prog 6 #[.int .i64 n, .slice A k c] w fun e w' => e = .returned (.bool true) ∧ Below w.heap.size w w' := by
  go_enter Try.func6, Try.ntmps6
  go_wp2_with fail
  refine (poolLives_c _).mono ?_
  rintro e w1 ⟨rfl, hb⟩
  have H1 := Lib.hid hb
  clear hb
  go_wp2_with (first
    | (go_at_call 11; refine (get_none _ _).mono ?_; rintro e w' ⟨rfl, rfl⟩)
    | (go_at_call 15; refine (counts_none _).mono ?_; rintro e w' ⟨rfl, rfl⟩)
    | (go_at_call 10; refine (put_none _ _ _ _ _).mono ?_; rintro e w' ⟨rfl, rfl⟩)
    | (go_at_call 14; refine (drop_none _ _).mono ?_; rintro e w' ⟨rfl, rfl⟩)
    | (go_at_call 12; refine (pages_none _).mono ?_; rintro e w' ⟨rfl, rfl⟩))
  go_ret
  exact ⟨rfl, H1.out⟩
end Go.Proofs.Ytliakkpmmmgmhaa
