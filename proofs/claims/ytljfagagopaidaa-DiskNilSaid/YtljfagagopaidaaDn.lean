/- The disk's methods on a nil disk, walked. -/
import Derived.Test.YtljfagagopaidaaDk
namespace Go.Proofs.Ytljfagagopaidaa
open Go.RowKit
set_option linter.unusedSimpArgs false
set_option linter.unusedVariables false
set_option maxRecDepth 100000

set_option maxHeartbeats 400000 in
theorem append_nil (w : World) (f : Int) (s : ByteArray) :
    Calls Try.prog 14 #[.pointer none, .int .i64 f, .string s] w fun e w' => e = .returned (.int .i64 2) ∧ w = w' := by
  go_enter Try.func14, Try.ntmps14
  go_wp2_with (first | (go_at_call 51; refine (wrong_nil _ _).mono ?_; rintro e w' ⟨rfl, rfl⟩))
  go_ret
  exact ⟨rfl, rfl⟩

set_option maxHeartbeats 400000 in
theorem sync_nil (w : World) (f : Int) :
    Calls Try.prog 15 #[.pointer none, .int .i64 f] w fun e w' => e = .returned (.int .i64 2) ∧ Fr (fun _ => False) w w' := by
  go_enter Try.func15, Try.ntmps15
  go_wp2_with (first | (go_at_call 51; refine (wrong_nil _ _).mono ?_; rintro e w' ⟨rfl, rfl⟩))
  go_ret
  exact ⟨rfl, ((Fr.refl _ w).alloc _).alloc _⟩

set_option maxHeartbeats 400000 in
theorem drop_nil (w : World) (f : Int) :
    Calls Try.prog 26 #[.pointer none, .int .i64 f] w fun e w' => e = .returned (.int .i64 2) ∧ Fr (fun _ => False) w w' := by
  go_enter Try.func26, Try.ntmps26
  go_wp2_with (first | (go_at_call 51; refine (wrong_nil _ _).mono ?_; rintro e w' ⟨rfl, rfl⟩))
  go_ret
  exact ⟨rfl, ((Fr.refl _ w).alloc _).alloc _⟩

set_option maxHeartbeats 400000 in
theorem cut_nil (w : World) (f k : Int) :
    Calls Try.prog 24 #[.pointer none, .int .i64 f, .int .i64 k] w fun e w' => e = .returned (.int .i64 2) ∧ Fr (fun _ => False) w w' := by
  go_enter Try.func24, Try.ntmps24
  go_wp2_with (first | (go_at_call 51; refine (wrong_nil _ _).mono ?_; rintro e w' ⟨rfl, rfl⟩))
  go_ret
  exact ⟨rfl, (((Fr.refl _ w).alloc _).alloc _).alloc _⟩

set_option maxHeartbeats 400000 in
theorem read_nil (w : World) (f : Int) :
    Calls Try.prog 17 #[.pointer none, .int .i64 f] w fun e w' => e = .returned (.tuple #[.string ⟨#[]⟩, .int .i64 2]) ∧ w = w' := by
  go_enter Try.func17, Try.ntmps17
  go_wp2_with (first | (go_at_call 51; refine (wrong_nil _ _).mono ?_; rintro e w' ⟨rfl, rfl⟩))
  go_ret2
  exact ⟨rfl, rfl⟩

set_option maxHeartbeats 400000 in
theorem arm_nil (w : World) (f : Int) :
    Calls Try.prog 18 #[.pointer none, .int .i64 f] w fun e w' => e = .returned (.tuple #[]) ∧ w = w' := by
  go_enter Try.func18, Try.ntmps18
  go_wp2_with (first | (go_at_call 51; refine (wrong_nil _ _).mono ?_; rintro e w' ⟨rfl, rfl⟩))
  go_end0
  exact ⟨rfl, rfl⟩

set_option maxHeartbeats 400000 in
theorem crash_nil (w : World) (v : Value) :
    Calls Try.prog 16 #[.pointer none, v] w fun e w' => e = .returned (.tuple #[]) ∧ w = w' := by
  go_enter Try.func16, Try.ntmps16
  go_wp2_with (first | (go_at_call 51; refine (wrong_nil _ _).mono ?_; rintro e w' ⟨rfl, rfl⟩))
  refine bodyPost_ret (results_none rfl _ _ _) rfl ?_
  exact ⟨rfl, rfl⟩

set_option maxHeartbeats 400000 in
theorem files_nil (w : World) :
    Calls Try.prog 32 #[.pointer none] w fun e w' => e = .returned (.slice none 0 0) ∧ w = w' := by
  go_enter Try.func32, Try.ntmps32
  go_wp2_with (first | (go_at_call 51; refine (wrong_nil _ _).mono ?_; rintro e w' ⟨rfl, rfl⟩))
  go_ret
  exact ⟨rfl, rfl⟩

set_option maxHeartbeats 400000 in
theorem size_nil (w : World) :
    Calls Try.prog 34 #[.pointer none] w fun e w' => e = .returned (.int .i64 0) ∧ w = w' := by
  go_enter Try.func34, Try.ntmps34
  go_wp2_with (first | (go_at_call 51; refine (wrong_nil _ _).mono ?_; rintro e w' ⟨rfl, rfl⟩))
  go_ret
  exact ⟨rfl, rfl⟩

set_option maxHeartbeats 400000 in
theorem dead_nil (w : World) :
    Calls Try.prog 19 #[.pointer none] w fun e w' => e = .returned (.bool false) ∧ w = w' := by
  go_enter Try.func19, Try.ntmps19
  go_wp2_with (first | (go_at_call 51; refine (wrong_nil _ _).mono ?_; rintro e w' ⟨rfl, rfl⟩))
  go_ret
  exact ⟨rfl, rfl⟩

set_option maxHeartbeats 400000 in
theorem steps_nil (w : World) :
    Calls Try.prog 37 #[.pointer none] w fun e w' => e = .returned (.int .i64 0) ∧ w = w' := by
  go_enter Try.func37, Try.ntmps37
  go_wp2_with (first | (go_at_call 51; refine (wrong_nil _ _).mono ?_; rintro e w' ⟨rfl, rfl⟩))
  go_ret
  exact ⟨rfl, rfl⟩

end Go.Proofs.Ytljfagagopaidaa
