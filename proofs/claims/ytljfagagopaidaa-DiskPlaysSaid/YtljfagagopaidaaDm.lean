/- The disk's small methods that read, arm, tell; and New. -/
import Derived.Test.YtljfagagopaidaaDc
namespace Go.Proofs.Ytljfagagopaidaa
open Go.RowKit
set_option linter.unusedSimpArgs false
set_option linter.unusedVariables false

theorem field77 (s : ByteArray) (n : Int) (W : World) : (Instr.field 77 (.agg #[.string s, .int .i64 n]) 0).run Try.prog W = .ok (.string s) W := by kernel_rfl

def Dk.readS (d : Dk) (f : Int) : ByteArray := if d.wrong f ≠ 0 then ⟨#[]⟩ else sAt d.files f

set_option maxRecDepth 100000 in
set_option maxHeartbeats 400000 in
theorem read_calls {w : World} {g m : Nat} {d : Dk} (h : DiskAt w g m d) (f : Int) :
    Calls Try.prog 17 #[.pointer (some ⟨g, 0, none⟩), .int .i64 f] w fun e w' => e = .returned (.tuple #[.string (d.readS f), .int .i64 (d.wrong f)]) ∧ w = w' := by
  have c0 : w.cell? ⟨g, 0, none⟩ = some (.map (some m)) := (cell_blk h.blk 0).trans rfl
  by_cases hw : d.wrong f = 0
  · have hb : (d.wrong f != 0) = false := by simpa using hw
    have e1 : d.readS f = sAt d.files f := by unfold Dk.readS; rw [if_neg (by simp [hw])]
    have E1 := Lib.hid e1; clear e1
    have Hw := Lib.hid hw; clear hw
    have hfl := field77 (sAt d.files f) (nAt d.files f)
    go_enter Try.func17, Try.ntmps17
    go_wp2_with (first | (go_at_call 51; refine (wrong_calls h f).mono ?_; rintro e w' ⟨rfl, rfl⟩) | (at_lookup; refine wp_lookup rfl _ _ f rfl h.map rfl rfl ?_) | go_in)
    go_ret2
    exact ⟨by rw [E1.out, Hw.out]; rfl, rfl⟩
  · have hb : (d.wrong f != 0) = true := by simpa using hw
    have e1 : d.readS f = ⟨#[]⟩ := by unfold Dk.readS; rw [if_pos hw]
    have E1 := Lib.hid e1; clear e1
    go_enter Try.func17, Try.ntmps17
    go_wp2_with (first | (go_at_call 51; refine (wrong_calls h f).mono ?_; rintro e w' ⟨rfl, rfl⟩))
    go_ret2
    exact ⟨by rw [E1.out]; rfl, rfl⟩

def Dk.arm (d : Dk) (n : Int) : Dk := { d with armed := if 0 ≤ n then n else 0 }

set_option maxRecDepth 100000 in
set_option maxHeartbeats 400000 in
theorem arm_calls {w : World} {g m : Nat} {d : Dk} (h : DiskAt w g m d) (n : Int) :
    Calls Try.prog 18 #[.pointer (some ⟨g, 0, none⟩), .int .i64 n] w fun e w' => e = .returned (.tuple #[]) ∧ DiskAt w' g m (d.arm n) ∧ Fr (Two g m) w w' := by
  have f2 := free_blk h.blk 2
  have c2 : w.cell? ⟨g, 2, none⟩ = some (.int .i64 d.armed) := (cell_blk h.blk 2).trans rfl
  have hat : ∀ a, DiskAt (w.setCell ⟨g, 2, none⟩ (.int .i64 a)) g m { d with armed := a } := fun a =>
    ⟨by simpa using set_blk h.blk 2 (.int .i64 a), h.map.setCell h.ne _⟩
  have hfr : ∀ a, Fr (Two g m) w (w.setCell ⟨g, 2, none⟩ a) := fun a => (Fr.refl _ w).setCell (fun _ => .inl rfl) _
  by_cases hn : 0 ≤ n
  · have e1 : d.arm n = { d with armed := n } := by unfold Dk.arm; rw [if_pos hn]
    have E1 := Lib.hid e1; clear e1
    go_enter Try.func18, Try.ntmps18
    go_wp2
    go_end0
    exact ⟨rfl, by rw [E1.out]; exact hat _, hfr _⟩
  · have e1 : d.arm n = { d with armed := 0 } := by unfold Dk.arm; rw [if_neg hn]
    have E1 := Lib.hid e1; clear e1
    go_enter Try.func18, Try.ntmps18
    go_wp2
    go_end0
    exact ⟨rfl, by rw [E1.out]; exact hat _, hfr _⟩

theorem dead_calls {w : World} {g m : Nat} {d : Dk} (h : DiskAt w g m d) :
    Calls Try.prog 19 #[.pointer (some ⟨g, 0, none⟩)] w fun e w' => e = .returned (.bool d.dead) ∧ w = w' := by
  have c3 : w.cell? ⟨g, 3, none⟩ = some (.bool d.dead) := (cell_blk h.blk 3).trans rfl
  go_enter Try.func19, Try.ntmps19
  go_wp2
  go_ret
  exact ⟨rfl, rfl⟩

theorem steps_calls {w : World} {g m : Nat} {d : Dk} (h : DiskAt w g m d) :
    Calls Try.prog 37 #[.pointer (some ⟨g, 0, none⟩)] w fun e w' => e = .returned (.int .i64 d.steps) ∧ w = w' := by
  have c4 : w.cell? ⟨g, 4, none⟩ = some (.int .i64 d.steps) := (cell_blk h.blk 4).trans rfl
  go_enter Try.func37, Try.ntmps37
  go_wp2
  go_ret
  exact ⟨rfl, rfl⟩

def Dk.new (limit : Int) : Dk := ⟨[], limit, 0, false, 0⟩

set_option maxRecDepth 100000 in
set_option maxHeartbeats 400000 in
theorem new_calls (w : World) (n : Int) (h1 : 1 ≤ n) (h2 : n ≤ 16777216) :
    Calls Try.prog 12 #[.int .i64 n] w fun e w' => e = .returned (.tuple #[.pointer (some ⟨w.heap.size + 1, 0, none⟩), .int .i64 0]) ∧ DiskAt w' (w.heap.size + 1) w.heap.size (Dk.new n) ∧ Fr (fun _ => False) w w' ∧ w'.heap.size = w.heap.size + 2 := by
  have hmm := @run_makeMap Try.prog
  go_enter Try.func12, Try.ntmps12
  go_wp2
  go_ret2
  refine ⟨rfl, ⟨?_, (MapIs.made w).alloc _⟩, ((Fr.refl _ w).alloc _).alloc _, by simp⟩
  have := heap_alloc_new (w.alloc (.map #[] 0)) (.cells #[.map (some w.heap.size), .int .i64 n, .int .i64 0, .bool false, .int .i64 0] 75)
  simpa [Dk.new] using this

set_option maxRecDepth 100000 in
set_option maxHeartbeats 400000 in
theorem new_wrong (w : World) (n : Int) (h : n < 1 ∨ 16777216 < n) :
    Calls Try.prog 12 #[.int .i64 n] w fun e w' => e = .returned (.tuple #[.pointer none, .int .i64 1]) ∧ w = w' := by
  rcases h with h | h
  · go_enter Try.func12, Try.ntmps12
    go_wp2
    go_ret2
    exact ⟨rfl, rfl⟩
  · have h' : ¬ n < 1 := by omega
    go_enter Try.func12, Try.ntmps12
    go_wp2
    go_ret2
    exact ⟨rfl, rfl⟩
end Go.Proofs.Ytljfagagopaidaa
