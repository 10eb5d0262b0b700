/- SeglogNil: for any record a nil log, and a log of a nil disk, do nothing: the law's function returns true. -/
import Derived.Test.YtljfagagopaidaaAw
namespace Go.Proofs.Ytljfagagopaidaa
open Go.RowKit Go.Proofs.YtljfagagopaidaaW.PrintWords
set_option linter.unusedSimpArgs false
set_option linter.unusedVariables false
set_option maxRecDepth 100000

theorem lappend_nil (v : Value) (w : World) : Calls Try.prog 42 #[.pointer none, v] w fun e w' => e = .returned (.int .i64 2) ∧ w = w' := by
  go_enter Try.func42, Try.ntmps42
  go_wp2_with fail
  refine (lwrong_nil w _).mono ?_
  rintro e w1 ⟨rfl, rfl⟩
  go_wp2
  go_ret
  exact ⟨rfl, rfl⟩
theorem lsync_nil (w : World) : Calls Try.prog 45 #[.pointer none] w fun e w' => e = .returned (.int .i64 2) ∧ w = w' := by
  go_enter Try.func45, Try.ntmps45
  go_wp2_with fail
  refine (lwrong_nil w _).mono ?_
  rintro e w1 ⟨rfl, rfl⟩
  go_wp2
  go_ret
  exact ⟨rfl, rfl⟩
theorem lcompact_nil (v : Value) (w : World) : Calls Try.prog 43 #[.pointer none, v] w fun e w' => e = .returned (.int .i64 2) ∧ w = w' := by
  go_enter Try.func43, Try.ntmps43
  go_wp2_with fail
  refine (lwrong_nil w _).mono ?_
  rintro e w1 ⟨rfl, rfl⟩
  go_wp2
  go_ret
  exact ⟨rfl, rfl⟩

set_option maxHeartbeats 1000000 in
theorem seglogNil_calls (s : ByteArray) (w : World) : Calls Try.prog 9 #[.string s] w fun e w' => e = .returned (.bool true) ∧ Below w.heap.size w w' := by
  go_enter Try.func9, Try.ntmps9
  go_wp2_with fail
  refine (open_nil w).mono ?_
  rintro e w1 ⟨rfl, rfl⟩
  go_wp2_with fail
  refine (lappend_nil _ _).mono ?_
  rintro e w1 ⟨rfl, rfl⟩
  go_wp2_with fail
  refine (lsync_nil _).mono ?_
  rintro e w1 ⟨rfl, rfl⟩
  go_wp2_with fail
  refine (lcompact_nil _ _).mono ?_
  rintro e w1 ⟨rfl, rfl⟩
  go_wp2_with fail
  refine (awake17_calls _).mono ?_
  rintro e w1 ⟨rfl, b1⟩
  go_wp2
  go_ret
  refine ⟨rfl, below_step (W := (w.alloc (.cells #[.string s] 9)).alloc (.cells #[.string s] 9)) (((Below.refl _ _).alloc (Nat.le_refl _) _).alloc (by simp) _) b1⟩

end Go.Proofs.Ytljfagagopaidaa
