/- fill: it answers, and not more than 300 bytes. -/
import Derived.Test.YtljfagagopaidaaLg1
namespace Go.Proofs.Ytljfagagopaidaa
open Go.RowKit Go.Proofs.YtljfagagopaidaaW.PrintWords
set_option linter.unusedVariables false

theorem fill_loop (x1 : Int) : ∀ (n : Nat) (x5 : List Int) (i : Nat), i + n = x5.length → x5.length ≤ 300 → ∃ y : List Int, y.length = x5.length ∧ Lg.vitrinelaw16_fill.l0 (n + 1) x1 x5 i = some (strOfNums y)
  | 0, x5, i, h, _ => by
    refine ⟨x5, rfl, ?_⟩
    have : ¬ ((i : Int) < (x5.length : Int)) := by omega
    simp only [Lg.vitrinelaw16_fill.l0]
    rw [if_neg this]
  | n + 1, x5, i, h, hl => by
    have h1 : (i : Int) < (x5.length : Int) := by omega
    have h2 : 0 ≤ (i : Int) := by omega
    have hw : wrap64 ((i : Int) + 1) = ((i + 1 : Nat) : Int) := (IntWalk.wrap64_in _ (by omega)).trans (by omega)
    obtain ⟨y, hy, he⟩ := fill_loop x1 n (x5.set (i : Int).toNat ((wrap64 (x1 + i)) % 256)) (i + 1) (by rw [List.length_set]; omega) (by rw [List.length_set]; exact hl)
    refine ⟨y, by rw [hy, List.length_set], ?_⟩
    conv => lhs; unfold Lg.vitrinelaw16_fill.l0
    rw [if_pos h1, if_pos h2, hw]
    exact he

theorem size_strOfNums (y : List Int) : (strOfNums y).size = y.length := by
  simp [strOfNums, ByteArray.size]

theorem fill_calls (a0 a1 : Int) : ∃ r : ByteArray, r.size ≤ 300 ∧ ∀ w, Calls Try.prog 21 #[.int .i64 a0, .int .i64 a1] w fun e w' => e = .returned (.string r) ∧ Below w.heap.size w w' := by
  obtain ⟨m, hm, hm0⟩ : ∃ m : Nat, mn (mx a0 0) 300 = (m : Int) ∧ m ≤ 300 := ⟨(mn (mx a0 0) 300).toNat, by unfold mn mx; split <;> split <;> omega, by unfold mn mx; split <;> split <;> omega⟩
  obtain ⟨y, hy, he⟩ := fill_loop a1 m (List.replicate m 0) 0 (by simp) (by simpa using hm0)
  refine ⟨strOfNums y, by rw [size_strOfNums, hy]; simpa using hm0, fun w => ?_⟩
  refine Lg.vitrinelaw16_fill.calls (m + 1) a0 a1 _ w ?_
  unfold Lg.vitrinelaw16_fill.f
  rw [hm, if_pos (by omega), if_pos (by omega), Int.toNat_natCast]
  exact he

end Go.Proofs.Ytljfagagopaidaa
