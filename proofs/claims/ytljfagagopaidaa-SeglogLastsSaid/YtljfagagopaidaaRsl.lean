/- The row of the law SeglogLasts, out of its walk: for every input the call returns true and each argument reads as it did. -/
import Derived.Test.YtljfagagopaidaaRows
import Derived.Test.YtljfagagopaidaaOpw
import Derived.Test.YtljfagagopaidaaSl
import Derived.WalkKit
import Derived.ProofKit
import Derived.OpenShut
import Derived.ShutString
import Derived.ChangeOld
import Derived.ChangeSlices
import Derived.Carry
import Derived.Below
import Derived.SizedLaws
namespace Go.Proofs.Ytljfagagopaidaa.seglogLasts
open Go.ChangeShapes Go.WideShapes Go.ChangeAt Go.RowKit Go.Proofs.YtljfagagopaidaaW.PrintWords
open Go.ChangeMaps (open_string shut_string)
set_option linter.unusedVariables false
theorem own : ownKnob Try.prog.godebug = none := by kernel_rfl
theorem laidOut : laidOutB Try.prog = true := by kernel_rfl
set_option maxRecDepth 100000 in
theorem lifted (os : Os) (started : os.Started) (H : Type) (enc : TypeId × Value → H) :
    ReturnsInHanded {} Try.checked os 10 .any (Rows.seglogLastsSpec.pre6 enc Try.prog Try.f10 Rows.seglogLastsRow.domain false) (Rows.seglogLastsSpec.post enc Try.prog Try.f10 false true false false) := by
  refine returnsInHanded_of_change_sized (C := Try.checked) own started (by kernel_rfl) Try.func10
    (ChangeSpec.witness6 (enc := enc) (C := Try.checked) false ⟨#[], #[.slice none 0 0, .slice none 0 0, .slice none 0 0], []⟩ 8 (by kernel_rfl) (by kernel_rfl) (by kernel_rfl) (by kernel_rfl)) ?_
  intro W base args ds gs before hval0 hW hcnd hsz0 _
  have hsz : (DataW.weightsEach Try.prog (Try.f10.params.toList ++ Rows.seglogLastsSpec.plain.varTypes Try.prog) (ds ++ gs)).all (· ≤ reachBytes) = true := hsz0
  have hval : ∀ (j : Nat) t v, Try.f10.params[j]? = some t → args[j]? = some v → Value.okWide Try.prog W .any base t v := hval0
  have hW' := hW
  obtain ⟨p, q, hA0, hV, rfl, hfz, hnd⟩ := hW
  have hA : DataW.TrodAll enc Try.prog W 0 (fun _ => true) true Try.f10.params.toList args.toList ds p := hA0
  rw [Try.params10] at hA hval hsz
  obtain ⟨v0, vs0, d0, ds0, p0, q0, hargs, rfl, rfl, h0, r0⟩ := trodAll_cons hA
  obtain ⟨v1, vs1, d1, ds1, p1, q1, rfl, rfl, rfl, h1, r1⟩ := trodAll_cons r0
  obtain ⟨v2, vs2, d2, ds2, p2, q2, rfl, rfl, rfl, h2, r2⟩ := trodAll_cons r1
  obtain ⟨rfl, rfl, rfl⟩ := trodAll_nil r2
  obtain rfl : args = #[v0, v1, v2] := by cases args; simp_all
  obtain ⟨rfl, rfl⟩ := trodVars_none hV
  obtain ⟨A0, len0, cap0, rfl⟩ := okWide_slice Try.underlying61 (hval 0 61 v0 rfl rfl)
  have k0 := h0
  have lt0 : ∀ x ∈ p0, x.block < W.heap.size := by obtain ⟨m, hm⟩ := k0; exact DataW.trod_lt m _ _ _ hm
  obtain ⟨a0, hK0, hc0, hQ0⟩ := opw_arg (opw_slice 63 Try.underlying61 (by kernel_rfl) (opw_struct Try.underlying63 (by kernel_rfl) (opwF_cons (opw_slice 9 Try.underlying22 (by kernel_rfl) (opw_string Try.underlying9 (by kernel_rfl))) rfl (opwF_cons (opw_of (opn_bool Try.underlying4 (by kernel_rfl))) rfl (opwF_one (opw_of (opn_bool Try.underlying4 (by kernel_rfl))) rfl))))) h0 (szd_arg hsz (j := 0) (t := 61) rfl rfl)
  obtain rfl : a0.length = len0 := hK0.1
  obtain ⟨A1, len1, cap1, rfl⟩ := okWide_slice Try.underlying41 (hval 1 41 v1 rfl rfl)
  have k1 := h1
  have lt1 : ∀ x ∈ p1, x.block < W.heap.size := by obtain ⟨m, hm⟩ := k1; exact DataW.trod_lt m _ _ _ hm
  obtain ⟨a1, hK1, hc1, hQ1⟩ := opw_arg (opw_slice 3 Try.underlying41 (by kernel_rfl) (opw_of (opn_int Try.underlying3 (by kernel_rfl)))) h1 (szd_arg hsz (j := 1) (t := 41) rfl rfl)
  obtain rfl : a1.length = len1 := hK1.1
  obtain ⟨A2, len2, cap2, rfl⟩ := okWide_slice Try.underlying41 (hval 2 41 v2 rfl rfl)
  have k2 := h2
  have lt2 : ∀ x ∈ p2, x.block < W.heap.size := by obtain ⟨m, hm⟩ := k2; exact DataW.trod_lt m _ _ _ hm
  obtain ⟨a2, hK2, hc2, hQ2⟩ := opw_arg (opw_slice 3 Try.underlying41 (by kernel_rfl) (opw_of (opn_int Try.underlying3 (by kernel_rfl)))) h2 (szd_arg hsz (j := 2) (t := 41) rfl rfl)
  obtain rfl : a2.length = len2 := hK2.1
  refine (seglogLasts_row A0 cap0 a0 hK0 hc0 hQ0 A1 cap1 a1 hK1 hc1 hQ1 A2 cap2 a2 hK2 hc2 hQ2 W).mono fun e W' ⟨he, bel⟩ => ?_
  subst he
  exact ⟨_, rfl, _, _, _, [], _, [], hW', trodAll_mk1 (shut_bool Try.underlying4 _), (trodAll_cons_mk (Below.trod laidOut (by kernel_rfl) (of_decide_eq_true (by kernel_rfl)) k0 bel lt0) (trodAll_cons_mk (Below.trod laidOut (by kernel_rfl) (of_decide_eq_true (by kernel_rfl)) k1 bel lt1) (trodAll_cons_mk (Below.trod laidOut (by kernel_rfl) (of_decide_eq_true (by kernel_rfl)) k2 bel lt2) trodAll_mk0))), rfl, bel.frame _, fun h => by cases h⟩
theorem over : Rows.seglogLastsRow.holds Try.pinned (OpenSpec.ofChange Rows.seglogLastsSpec) :=
  OpenClaim.holds_of_wide 10 Try.f10 rfl rfl rfl rfl rfl rfl rfl ⟨rfl, rfl, rfl, rfl, rfl⟩ rfl rfl rfl rfl rfl (by kernel_rfl) Try.func10 (by kernel_rfl)
    (of_decide_eq_true (by kernel_rfl)) (by unfold Func.isWrapper; first | (rw [if_pos (by decide +kernel)]; kernel_rfl) | (rw [if_neg (by decide +kernel)]; exact ⟨rfl, rfl⟩))
    (fun os started H enc _ => lifted os started H enc)
end Go.Proofs.Ytljfagagopaidaa.seglogLasts
namespace Go.Proofs.Ytljfagagopaidaa
/-- The law's row. -/
theorem seglogLasts_holds : Rows.SeglogLastsSaid := seglogLasts.over
#print axioms seglogLasts_holds
end Go.Proofs.Ytljfagagopaidaa
