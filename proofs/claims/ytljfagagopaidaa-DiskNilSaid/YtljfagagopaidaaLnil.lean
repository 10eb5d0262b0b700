/- DiskNil: for every number the law's function returns true and leaves what was there: a nil disk has nothing. -/
import Derived.Test.YtljfagagopaidaaDw
import Derived.Test.YtljfagagopaidaaDn
namespace Go.Proofs.Ytljfagagopaidaa
open Go.RowKit
set_option linter.unusedSimpArgs false
set_option linter.unusedVariables false
set_option maxRecDepth 100000

set_option maxHeartbeats 1000000 in
theorem diskNil_calls (n : Int) (w : World) : Calls Try.prog 6 #[.int .i64 n] w fun e w' => e = .returned (.bool true) ∧ Below w.heap.size w w' := by
  go_enter Try.func6, Try.ntmps6
  go_wp2_with fail
  refine (arm_nil _ n).mono ?_
  rintro e w' ⟨rfl, rfl⟩
  go_wp2_with fail
  refine (crash_nil _ _).mono ?_
  rintro e w1 ⟨rfl, rfl⟩
  have k1 : Fr (fun _ => False) w (w.alloc (.cells #[.int .i64 n] 3)) := (Fr.refl _ w).alloc _
  generalize w.alloc (.cells #[.int .i64 n] 3) = w1 at k1 ⊢
  go_wp2_with fail
  refine (read_nil _ n).mono ?_
  rintro e w' ⟨rfl, rfl⟩
  go_wp2_with fail
  refine (append_nil _ n _).mono ?_
  rintro e w' ⟨rfl, rfl⟩
  go_wp2_with fail
  refine (sync_nil _ n).mono ?_
  rintro e w2 ⟨rfl, k2⟩
  replace k2 := k1.trans k2
  clear k1
  go_wp2_with fail
  refine (cut_nil _ n n).mono ?_
  rintro e w3 ⟨rfl, k3⟩
  replace k3 := k2.trans k3
  clear k2
  go_wp2_with fail
  refine (drop_nil _ n).mono ?_
  rintro e w4 ⟨rfl, k4⟩
  replace k4 := k3.trans k4
  clear k3
  go_wp2_with fail
  refine (files_nil _).mono ?_
  rintro e w' ⟨rfl, rfl⟩
  go_wp2_with fail
  refine (size_nil _).mono ?_
  rintro e w' ⟨rfl, rfl⟩
  go_wp2_with fail
  refine (dead_nil _).mono ?_
  rintro e w' ⟨rfl, rfl⟩
  go_wp2_with fail
  refine (steps_nil _).mono ?_
  rintro e w' ⟨rfl, rfl⟩
  go_wp2_with fail
  refine (awake_calls _).mono ?_
  rintro e w5 ⟨rfl, b5⟩
  go_wp2
  go_ret
  exact ⟨rfl, (k4.trans (Fr.of_below b5)).to_below (fun _ _ => id)⟩
end Go.Proofs.Ytljfagagopaidaa
