/- The disk's change, walked with a function value of which a contract is handed in. -/
import Derived.Test.YtljfagagopaidaaDa
namespace Go.Proofs.Ytljfagagopaidaa
open Go.RowKit
set_option linter.unusedSimpArgs false
set_option linter.unusedVariables false

def Dk.changed (d : Dk) (f : Int) (D : Dk) : Dk := if d.step.dead then d.step else if (look d.files f).isSome then D else d.step

theorem Dk.changed_dead {d : Dk} {f : Int} {D : Dk} (h : d.step.dead = true) : d.changed f D = d.step ∧ d.stepE = 50 := by
  unfold Dk.changed Dk.stepE
  rw [h]
  exact ⟨rfl, rfl⟩
theorem Dk.changed_none {d : Dk} {f : Int} {D : Dk} (h : d.step.dead = false) (h2 : (look d.files f).isSome = false) : d.changed f D = d.step ∧ d.stepE = 0 := by
  unfold Dk.changed Dk.stepE
  rw [h, h2]
  exact ⟨rfl, rfl⟩
theorem Dk.changed_some {d : Dk} {f : Int} {D : Dk} (h : d.step.dead = false) (h2 : (look d.files f).isSome = true) : d.changed f D = D ∧ d.stepE = 0 := by
  unfold Dk.changed Dk.stepE
  rw [h, h2]
  exact ⟨rfl, rfl⟩

def Does (F : Nat) (caps : Array Value) (w : World) (g m : Nat) (d : Dk) (f : Int) (D : Dk) : Prop :=
  ∀ (w1 : World) (o : Obj), Fr (Two g m) w w1 → DiskAt w1 g m d.step →
    Calls Try.prog F (#[.agg #[.string (sAt d.files f), .int .i64 (nAt d.files f)]] ++ caps) (w1.alloc o) fun e w' => e = .returned (.tuple #[]) ∧ DiskAt w' g m D ∧ Fr (Two g m) (w1.alloc o) w'

set_option maxRecDepth 100000 in
set_option maxHeartbeats 400000 in
theorem change_calls {w : World} {g m : Nat} {d : Dk} (h : DiskAt w g m d) (ok : d.Ok) (f : Int) (F : Nat) (caps : Array Value) (D : Dk) (hF : ∀ args W, (callFunc F args).run Try.prog W = .ok (.enter F args) W) (hdoes : Does F caps w g m d f D) :
    Calls Try.prog 53 #[.pointer (some ⟨g, 0, none⟩), .int .i64 f, .func (.func F) #[] caps] w fun e w' => e = .returned (.int .i64 d.stepE) ∧ DiskAt w' g m (d.changed f D) ∧ Fr (Two g m) w w' := by
  cases hd : d.step.dead with
  | true =>
    have he : d.stepE = 50 := (Dk.changed_dead (f := f) (D := D) hd).2
    have Hd := Lib.hid hd; clear hd
    have He := Lib.hid he
    have hb : (d.stepE != 0) = true := by rw [he]; rfl
    clear he
    go_enter Try.func53, Try.ntmps53
    go_wp2_with (first | (go_at_call 52; refine (step_calls h ok.arm0 ok.arm1).mono ?_; rintro e w3 ⟨rfl, h3, k3⟩))
    go_ret
    exact ⟨rfl, by rw [(Dk.changed_dead Hd.out).1]; exact h3, k3⟩
  | false =>
    have he : d.stepE = 0 := (by unfold Dk.stepE; rw [hd]; rfl)
    have hb : (d.stepE != 0) = false := by rw [he]; rfl
    have Hd := Lib.hid hd; clear hd
    have He := Lib.hid he; clear he
    cases hl : (look d.files f).isSome with
    | false =>
      have hls : (look d.step.files f).isSome = false := hl
      have Hl := Lib.hid hl; clear hl
      go_enter Try.func53, Try.ntmps53
      go_wp2_with (first | (go_at_call 52; refine (step_calls h ok.arm0 ok.arm1).mono ?_; rintro e w3 ⟨rfl, h3, k3⟩; have c0 : w3.cell? ⟨g, 0, none⟩ = some (.map (some m)) := (cell_blk h3.blk 0).trans rfl) | (at_lookup; refine wp_lookup_ok rfl _ _ f rfl h3.map rfl rfl ?_) | go_in)
      go_ret
      exact ⟨by rw [He.out]; rfl, by rw [(Dk.changed_none Hd.out Hl.out).1]; exact h3.alloc _, k3.alloc _⟩
    | true =>
      have hls : (look d.step.files f).isSome = true := hl
      have Hl := Lib.hid hl; clear hl
      go_enter Try.func53, Try.ntmps53
      go_wp2_with (first | (go_at_call 52; refine (step_calls h ok.arm0 ok.arm1).mono ?_; rintro e w3 ⟨rfl, h3, k3⟩; have c0 : w3.cell? ⟨g, 0, none⟩ = some (.map (some m)) := (cell_blk h3.blk 0).trans rfl) | (at_lookup; refine wp_lookup_ok rfl _ _ f rfl h3.map rfl rfl ?_))
      refine (hdoes w3 _ k3 h3).mono ?_
      rintro e w4 ⟨rfl, h4, k4⟩
      go_wp2
      go_ret
      exact ⟨by rw [He.out]; rfl, by rw [(Dk.changed_some Hd.out Hl.out).1]; exact h4, (k3.alloc _).trans k4⟩

theorem runs54 (args : Array Value) (W : World) : (callFunc 54 args).run Try.prog W = .ok (.enter 54 args) W := by go_simp
theorem runs58 (args : Array Value) (W : World) : (callFunc 58 args).run Try.prog W = .ok (.enter 58 args) W := by go_simp
theorem runs59 (args : Array Value) (W : World) : (callFunc 59 args).run Try.prog W = .ok (.enter 59 args) W := by go_simp
end Go.Proofs.Ytljfagagopaidaa
