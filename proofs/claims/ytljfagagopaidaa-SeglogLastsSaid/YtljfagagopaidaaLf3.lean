-- PRINTED by print.py (a twelfth state) out of the translation. Not trusted: Lean checks it.
import Derived.Test.YtljfagagopaidaaLf0
import Derived.Test.YtljfagagopaidaaLf2
namespace Go.Proofs.Ytljfagagopaidaa.Lf
open Go.RowKit Go.Proofs.YtljfagagopaidaaW.PrintWords Go.Proofs.YtljfagagopaidaaW.PrintLast Go.Proofs.YtljfagagopaidaaW.PrintMore
attribute [local go_sem] max2_int min2_int max_two min_two max_three min_three max_four min_four   -- for this text's walks alone
set_option linter.unusedVariables false
set_option linter.unusedSimpArgs false

/-! ### vitrineref17_Records: function 84 -/
mutual
def vitrineref17_Records.l0 : Nat → ByteArray → List ByteArray → Int → Option (List ByteArray × Int)
  | 0, _, _, _ => none
  | k + 1, x0, x4, x5 => if (wrap64 ((x0.size : Int) - x5)) ≥ 8 then (if 0 ≤ x5 then (if x5 ≤ (wrap64 (x5 + 4)) then (if (wrap64 (x5 + 4)) ≤ (x0.size : Int) then ((vitrineref06_Of.f k (x0.extract (x5 : Int).toNat ((wrap64 (x5 + 4)) : Int).toNat)).bind fun t129 => (if t129 < 1 then (vitrineref17_Records.j1 k x0 x4 x5 t129 true) else (if t129 > 1000000 then (vitrineref17_Records.j1 k x0 x4 x5 t129 true) else (vitrineref17_Records.j1 k x0 x4 x5 t129 (decide ((wrap64 ((wrap64 ((x0.size : Int) - x5)) - 8)) < t129)))))) else (none)) else (none)) else (none)) else (some (x4, x5))
def vitrineref17_Records.j1 : Nat → ByteArray → List ByteArray → Int → Int → Bool → Option (List ByteArray × Int)
  | 0, _, _, _, _, _ => none
  | k + 1, x0, x4, x5, x6, x33 => if x33 = true then (some (x4, x5)) else (if 0 ≤ (wrap64 (x5 + 8)) then (if (wrap64 (x5 + 8)) ≤ (wrap64 ((wrap64 (x5 + 8)) + x6)) then (if (wrap64 ((wrap64 (x5 + 8)) + x6)) ≤ (x0.size : Int) then (if 0 ≤ (wrap64 (x5 + 4)) then (if (wrap64 (x5 + 4)) ≤ (wrap64 (x5 + 8)) then (if (wrap64 (x5 + 8)) ≤ (x0.size : Int) then ((vitrineref06_Of.f k (x0.extract ((wrap64 (x5 + 4)) : Int).toNat ((wrap64 (x5 + 8)) : Int).toNat)).bind fun t130 => ((vitrineref01_Crc.f k (x0.extract ((wrap64 (x5 + 8)) : Int).toNat ((wrap64 ((wrap64 (x5 + 8)) + x6)) : Int).toNat)).bind fun t131 => (if t130 = t131 then (if x4.length < 8796093022208 then (vitrineref17_Records.l0 k x0 (x4 ++ [x0.extract ((wrap64 (x5 + 8)) : Int).toNat ((wrap64 ((wrap64 (x5 + 8)) + x6)) : Int).toNat]) (wrap64 ((wrap64 (x5 + 8)) + x6))) else (none)) else (some (x4, x5))))) else (none)) else (none)) else (none)) else (none)) else (none)) else (none))
end
def vitrineref17_Records.f (k : Nat) (a0 : ByteArray) : Option (List ByteArray × Int) := vitrineref17_Records.l0 k a0 ([] : List ByteArray) 0
theorem vitrineref17_Records.mono_l : ∀ k, (∀ y0 y1 y2, LeO (vitrineref17_Records.l0 k y0 y1 y2) (vitrineref17_Records.l0 (k + 1) y0 y1 y2)) ∧ (∀ y0 y1 y2 y3 y4, LeO (vitrineref17_Records.j1 k y0 y1 y2 y3 y4) (vitrineref17_Records.j1 (k + 1) y0 y1 y2 y3 y4))
  | 0 => ⟨fun _ _ _ r h => by simp [vitrineref17_Records.l0] at h, fun _ _ _ _ _ r h => by simp [vitrineref17_Records.j1] at h⟩
  | k + 1 => by
    obtain ⟨ih0, ih1⟩ := vitrineref17_Records.mono_l k
    refine ⟨?_, ?_⟩
    · intro y0 y1 y2
      unfold vitrineref17_Records.l0
      repeat' first
      | (with_reducible exact ih0 _ _ _)
      | (with_reducible exact ih1 _ _ _ _ _)
      | (with_reducible exact vitrineref01_Crc.mono _ _)
      | (with_reducible exact vitrineref06_Of.mono _ _)
      | (with_reducible exact LeO.refl _)
      | (with_reducible exact LeO.none _)
      | (with_reducible refine LeO.ite ?_ ?_)
      | (with_reducible refine LeO.bind ?_ (fun _ => ?_))
      | exact ih0 _ _ _
      | exact ih1 _ _ _ _ _
      | exact vitrineref01_Crc.mono _ _
      | exact vitrineref06_Of.mono _ _
      | exact LeO.none _
      | refine LeO.ite ?_ ?_
      | refine LeO.bind ?_ (fun _ => ?_)
    · intro y0 y1 y2 y3 y4
      unfold vitrineref17_Records.j1
      repeat' first
      | (with_reducible exact ih0 _ _ _)
      | (with_reducible exact ih1 _ _ _ _ _)
      | (with_reducible exact vitrineref01_Crc.mono _ _)
      | (with_reducible exact vitrineref06_Of.mono _ _)
      | (with_reducible exact LeO.refl _)
      | (with_reducible exact LeO.none _)
      | (with_reducible refine LeO.ite ?_ ?_)
      | (with_reducible refine LeO.bind ?_ (fun _ => ?_))
      | exact ih0 _ _ _
      | exact ih1 _ _ _ _ _
      | exact vitrineref01_Crc.mono _ _
      | exact vitrineref06_Of.mono _ _
      | exact LeO.none _
      | refine LeO.ite ?_ ?_
      | refine LeO.bind ?_ (fun _ => ?_)
theorem vitrineref17_Records.mono : ∀ a0 k, LeO (vitrineref17_Records.f k a0) (vitrineref17_Records.f (k + 1) a0) := by
  intro a0 k
  obtain ⟨ih0, ih1⟩ := vitrineref17_Records.mono_l k
  unfold vitrineref17_Records.f
  repeat' first
      | (with_reducible exact ih0 _ _ _)
      | (with_reducible exact ih1 _ _ _ _ _)
      | (with_reducible exact vitrineref01_Crc.mono _ _)
      | (with_reducible exact vitrineref06_Of.mono _ _)
      | (with_reducible exact LeO.refl _)
      | (with_reducible exact LeO.none _)
      | (with_reducible refine LeO.ite ?_ ?_)
      | (with_reducible refine LeO.bind ?_ (fun _ => ?_))
      | exact ih0 _ _ _
      | exact ih1 _ _ _ _ _
      | exact vitrineref01_Crc.mono _ _
      | exact vitrineref06_Of.mono _ _
      | exact LeO.none _
      | refine LeO.ite ?_ ?_
      | refine LeO.bind ?_ (fun _ => ?_)
set_option maxHeartbeats 8000000 in
set_option maxRecDepth 100000 in
theorem vitrineref17_Records.calls (k : Nat) (a0 : ByteArray) (r1 : List ByteArray) (r2 : Int) (w : World) (h : vitrineref17_Records.f k a0 = some (r1, r2)) :
    Calls Try.prog 84 #[.string a0] w fun e w' => ∃ v0_ : Value, e = .returned (.tuple #[v0_, .int .i64 r2]) ∧ Kd.R Kd.string 9 w' w.heap.size (fun _ => True) v0_ r1 ∧ Below w.heap.size w w' := by
  have HB := Aside0.mk (Below.refl w.heap.size w)
  have H : (vitrineref17_Records.l0 k a0 ([] : List ByteArray) 0) = some (r1, r2) := h
  clear h
  have H' := Aside0.mk H
  clear H
  go_enter Try.func84, Try.ntmps84
  go_wp2
  go_loopg [4, 5] k (fun kq v4 v5 w' => ∃ (x4_1 : List ByteArray) (x5_1 : Int), v5 = .int .i64 x5_1 ∧ Aside0 (vitrineref17_Records.l0 kq a0 x4_1 x5_1 = some (r1, r2)) ∧ Aside0 (kq ≤ k) ∧ Aside0 (Kd.R Kd.string 9 w' w.heap.size (fun _ => True) v4 x4_1) ∧ Aside0 (Below w.heap.size w w'))
  case atStart => exact ⟨(([] : List ByteArray)), (0), (by first | rfl | (simp; done) | (simp [*]; done)), H', ⟨Nat.le_refl _⟩, ⟨by first | exact Kd.R_nil _ _ _ _ _ | exact Kd.N_nil _ _ _ _ _ | exact Kd.V_nil _ _ _ _ _ | exact Kd.Q_nil _ _ _ _ _ | exact Kd.S_nil _ _ _ _ _⟩, ⟨by repeat (first | (with_reducible first | exact HB.out | apply below_alloc | apply pw_below_drewN | apply below_drew1) | exact HB.out)⟩⟩
  case round =>
    clear H'
    obtain ⟨x4_1, x5_1, rfl, HA, HK1, HO_4, HB⟩ := hrel
    cases gk with
    | zero => exact absurd HA.out (by simp [vitrineref17_Records.l0])
    | succ k1 =>
      have H := HA.out
      clear HA
      simp only [vitrineref17_Records.l0] at H
      by_cases c2 : (wrap64 ((a0.size : Int) - x5_1)) ≥ 8
      · rw [if_pos c2] at H
        have c2b0 : decide (8 ≤ (wrap64 ((a0.size : Int) - x5_1))) = true := decide_eq_true c2
        clear c2
        by_cases c3 : 0 ≤ x5_1
        · rw [if_pos c3] at H
          have c3b0 := eq_true c3
          have c3b1 : decide (0 ≤ x5_1) = true := decide_eq_true c3
          clear c3
          by_cases c4 : x5_1 ≤ (wrap64 (x5_1 + 4))
          · rw [if_pos c4] at H
            have c4b0 := eq_true c4
            have c4b1 : decide (x5_1 ≤ (wrap64 (x5_1 + 4))) = true := decide_eq_true c4
            by_cases c5 : (wrap64 (x5_1 + 4)) ≤ (a0.size : Int)
            · rw [if_pos c5] at H
              have c5b0 := eq_true c5
              have c5b1 : decide ((wrap64 (x5_1 + 4)) ≤ (a0.size : Int)) = true := decide_eq_true c5
              replace H := Option.bind_eq_some_iff.mp H
              obtain ⟨t129, A60, H⟩ := H
              replace H : (if t129 < 1 then (vitrineref17_Records.j1 k1 a0 x4_1 x5_1 t129 true) else (if t129 > 1000000 then (vitrineref17_Records.j1 k1 a0 x4_1 x5_1 t129 true) else (vitrineref17_Records.j1 k1 a0 x4_1 x5_1 t129 (decide ((wrap64 ((wrap64 ((a0.size : Int) - x5_1)) - 8)) < t129))))) = some (r1, r2) := H
              have A6 := Aside0.mk A60
              clear A60
              have HC7 := Aside0.mk H
              clear H
              go_upto_region 5 with (first | ((with_reducible refine gate_callee (f := 85) rfl ?_); refine goesL_ (some 18) rfl rfl Try.func85 (by kernel_rfl) rfl #[.string (a0.extract (x5_1 : Int).toNat ((wrap64 (x5_1 + 4)) : Int).toNat)] rfl (by (try simp only [List.map_toArray, List.map_cons, List.map_nil]); first | done | rfl | (simp only [List.length_drop, List.length_take]; rfl)) ?_; (with_reducible refine (vitrineref06_Of.calls k1 (a0.extract (x5_1 : Int).toNat ((wrap64 (x5_1 + 4)) : Int).toNat) t129 _ A6.out).mono ?_); rintro e w' ⟨rfl, ⟨nd, rfl⟩⟩; refine ⟨_, rfl, ?_⟩))
              (try simp only [Act.put, List.setIfInBounds_toArray, List.set_cons_zero, List.set_cons_succ])
              go_cut [33] (fun v33 wc => ∃ (kq : Nat) (x33_6 : Bool), v33 = .bool x33_6 ∧ Aside0 (vitrineref17_Records.j1 kq a0 x4_1 x5_1 t129 x33_6 = some (r1, r2)) ∧ Aside0 (kq ≤ k1) ∧ Aside0 (Kd.R Kd.string 9 wc w.heap.size (fun _ => True) u4 x4_1) ∧ Aside0 (Below w.heap.size w wc))
              case first =>
                have H := HC7.out
                clear HC7
                by_cases c8 : t129 < 1
                · rw [if_pos c8] at H
                  have c8b0 : decide (t129 < 1) = true := decide_eq_true c8
                  clear c8
                  (first | rw [c8b0] | (simp only [i64_w, i32_w]; rw [c8b0]) | skip)
                  have H' := Aside0.mk H
                  clear H
                  go_wp2
                  go_meet
                  case rel => exact ⟨_, (true), (by first | rfl | (simp; done) | (simp [*]; done)), H', ⟨by have := HK1.out; first | omega | exact Nat.le_refl _⟩, ⟨by (with_reducible repeat (first | apply Kd.R_alloc | apply Kd.R_drewN | apply Kd.R_drew)); exact HO_4.out⟩, ⟨by repeat (first | (with_reducible first | exact HB.out | apply below_alloc | apply pw_below_drewN | apply below_drew1) | exact HB.out)⟩⟩
                · rw [if_neg c8] at H
                  have c8b0 : decide (t129 < 1) = false := decide_eq_false c8
                  clear c8
                  (first | rw [c8b0] | (simp only [i64_w, i32_w]; rw [c8b0]) | skip)
                  by_cases c9 : t129 > 1000000
                  · rw [if_pos c9] at H
                    have c9b0 : decide (1000000 < t129) = true := decide_eq_true c9
                    clear c9
                    have H' := Aside0.mk H
                    clear H
                    go_wp2
                    go_meet
                    case rel => exact ⟨_, (true), (by first | rfl | (simp; done) | (simp [*]; done)), H', ⟨by have := HK1.out; first | omega | exact Nat.le_refl _⟩, ⟨by (with_reducible repeat (first | apply Kd.R_alloc | apply Kd.R_drewN | apply Kd.R_drew)); exact HO_4.out⟩, ⟨by repeat (first | (with_reducible first | exact HB.out | apply below_alloc | apply pw_below_drewN | apply below_drew1) | exact HB.out)⟩⟩
                  · rw [if_neg c9] at H
                    have c9b0 : decide (1000000 < t129) = false := decide_eq_false c9
                    clear c9
                    have H' := Aside0.mk H
                    clear H
                    go_wp2
                    go_meet
                    case rel => exact ⟨_, (decide ((wrap64 ((wrap64 ((a0.size : Int) - x5_1)) - 8)) < t129)), (by first | rfl | (simp; done) | (simp [*]; done)), H', ⟨by have := HK1.out; first | omega | exact Nat.le_refl _⟩, ⟨by (with_reducible repeat (first | apply Kd.R_alloc | apply Kd.R_drewN | apply Kd.R_drew)); exact HO_4.out⟩, ⟨by repeat (first | (with_reducible first | exact HB.out | apply below_alloc | apply pw_below_drewN | apply below_drew1) | exact HB.out)⟩⟩
              case rest =>
                clear HC7
                try clear c2
                try clear c2b0
                try clear p2
                try clear c3
                try clear c3b0
                try clear c3b1
                try clear c4
                try clear c4b0
                try clear c4b1
                try clear c5
                try clear c5b0
                try clear c5b1
                try clear p6
                try clear c8
                try clear c8b0
                try clear c9
                try clear c9b0
                obtain ⟨kq, x33_6, rfl, HA, HJ6, HO_4, HB⟩ := hcut
                cases kq with
                | zero => exact absurd HA.out (by simp [vitrineref17_Records.j1])
                | succ kj6 =>
                  have H := HA.out
                  clear HA
                  simp only [vitrineref17_Records.j1] at H
                  by_cases c10 : x33_6 = true
                  · subst c10
                    have H1 : (some (x4_1, x5_1)) = some (r1, r2) := by rw [if_pos rfl] at H; exact H
                    clear H
                    have H := H1
                    clear H1
                    simp only [Option.some.injEq, Prod.mk.injEq] at H
                    obtain ⟨rfl, rfl⟩ := H
                    go_wp2
                    go_ret2
                    exact ⟨_, by first | rfl | (simp [errW_none, errW_some] <;> rfl) | (simp [*, errW_none, errW_some] <;> rfl), by (with_reducible repeat (first | apply Kd.R_alloc | apply Kd.R_drewN | apply Kd.R_drew)); exact HO_4.out, by repeat (first | (with_reducible first | exact HB.out | apply below_alloc | apply pw_below_drewN | apply below_drew1) | exact HB.out)⟩
                  · replace c10 := Bool.eq_false_iff.mpr c10
                    subst c10
                    have H1 : (if 0 ≤ (wrap64 (x5_1 + 8)) then (if (wrap64 (x5_1 + 8)) ≤ (wrap64 ((wrap64 (x5_1 + 8)) + t129)) then (if (wrap64 ((wrap64 (x5_1 + 8)) + t129)) ≤ (a0.size : Int) then (if 0 ≤ (wrap64 (x5_1 + 4)) then (if (wrap64 (x5_1 + 4)) ≤ (wrap64 (x5_1 + 8)) then (if (wrap64 (x5_1 + 8)) ≤ (a0.size : Int) then ((vitrineref06_Of.f kj6 (a0.extract ((wrap64 (x5_1 + 4)) : Int).toNat ((wrap64 (x5_1 + 8)) : Int).toNat)).bind fun t130 => ((vitrineref01_Crc.f kj6 (a0.extract ((wrap64 (x5_1 + 8)) : Int).toNat ((wrap64 ((wrap64 (x5_1 + 8)) + t129)) : Int).toNat)).bind fun t131 => (if t130 = t131 then (if x4_1.length < 8796093022208 then (vitrineref17_Records.l0 kj6 a0 (x4_1 ++ [a0.extract ((wrap64 (x5_1 + 8)) : Int).toNat ((wrap64 ((wrap64 (x5_1 + 8)) + t129)) : Int).toNat]) (wrap64 ((wrap64 (x5_1 + 8)) + t129))) else (none)) else (some (x4_1, x5_1))))) else (none)) else (none)) else (none)) else (none)) else (none)) else (none)) = some (r1, r2) := by rw [if_neg (show ¬ (false = true) by decide)] at H; exact H
                    clear H
                    have H := H1
                    clear H1
                    obtain ⟨ji11, hji11⟩ : ∃ j_ : Int, (wrap64 (x5_1 + 8)) = j_ := ⟨_, rfl⟩
                    replace H : (if 0 ≤ (ji11) then (if (ji11) ≤ (wrap64 ((ji11) + t129)) then (if (wrap64 ((ji11) + t129)) ≤ (a0.size : Int) then (if 0 ≤ (wrap64 (x5_1 + 4)) then (if (wrap64 (x5_1 + 4)) ≤ (ji11) then (if (ji11) ≤ (a0.size : Int) then ((vitrineref06_Of.f kj6 (a0.extract ((wrap64 (x5_1 + 4)) : Int).toNat ((ji11) : Int).toNat)).bind fun t130 => ((vitrineref01_Crc.f kj6 (a0.extract ((ji11) : Int).toNat ((wrap64 ((ji11) + t129)) : Int).toNat)).bind fun t131 => (if t130 = t131 then (if x4_1.length < 8796093022208 then (vitrineref17_Records.l0 kj6 a0 (x4_1 ++ [a0.extract ((ji11) : Int).toNat ((wrap64 ((ji11) + t129)) : Int).toNat]) (wrap64 ((ji11) + t129))) else (none)) else (some (x4_1, x5_1))))) else (none)) else (none)) else (none)) else (none)) else (none)) else (none)) = some (r1, r2) := by first | (rw [hji11] at H; exact H) | (simp only [hji11] at H ⊢; exact H)
                    have hji11w : (IntKind.i64.wrap (x5_1 + 8)) = ji11 := (i64_w _).trans hji11
                    by_cases c12 : 0 ≤ (ji11)
                    · rw [if_pos c12] at H
                      have c12b0 := eq_true c12
                      have c12b1 : decide (0 ≤ (ji11)) = true := decide_eq_true c12
                      clear c12
                      by_cases c13 : (ji11) ≤ (wrap64 ((ji11) + t129))
                      · rw [if_pos c13] at H
                        have c13b0 := eq_true c13
                        have c13b1 : decide ((ji11) ≤ (wrap64 ((ji11) + t129))) = true := decide_eq_true c13
                        by_cases c14 : (wrap64 ((ji11) + t129)) ≤ (a0.size : Int)
                        · rw [if_pos c14] at H
                          have c14b0 := eq_true c14
                          have c14b1 : decide ((wrap64 ((ji11) + t129)) ≤ (a0.size : Int)) = true := decide_eq_true c14
                          obtain ⟨ji15, hji15⟩ : ∃ j_ : Int, (wrap64 (x5_1 + 4)) = j_ := ⟨_, rfl⟩
                          replace H : (if 0 ≤ (ji15) then (if (ji15) ≤ (ji11) then (if (ji11) ≤ (a0.size : Int) then ((vitrineref06_Of.f kj6 (a0.extract ((ji15) : Int).toNat ((ji11) : Int).toNat)).bind fun t130 => ((vitrineref01_Crc.f kj6 (a0.extract ((ji11) : Int).toNat ((wrap64 ((ji11) + t129)) : Int).toNat)).bind fun t131 => (if t130 = t131 then (if x4_1.length < 8796093022208 then (vitrineref17_Records.l0 kj6 a0 (x4_1 ++ [a0.extract ((ji11) : Int).toNat ((wrap64 ((ji11) + t129)) : Int).toNat]) (wrap64 ((ji11) + t129))) else (none)) else (some (x4_1, x5_1))))) else (none)) else (none)) else (none)) = some (r1, r2) := by first | (rw [hji15] at H; exact H) | (simp only [hji15] at H ⊢; exact H)
                          (try rw [hji15] at c4b0)
                          (try rw [hji15] at c4b1)
                          (try rw [hji15] at c4)
                          (try rw [hji15] at c5b0)
                          (try rw [hji15] at c5b1)
                          (try rw [hji15] at c5)
                          have hji15w : (IntKind.i64.wrap (x5_1 + 4)) = ji15 := (i64_w _).trans hji15
                          by_cases c16 : 0 ≤ (ji15)
                          · rw [if_pos c16] at H
                            have c16b0 := eq_true c16
                            have c16b1 : decide (0 ≤ (ji15)) = true := decide_eq_true c16
                            clear c16
                            by_cases c17 : (ji15) ≤ (ji11)
                            · rw [if_pos c17] at H
                              have c17b0 := eq_true c17
                              have c17b1 : decide ((ji15) ≤ (ji11)) = true := decide_eq_true c17
                              clear c17
                              by_cases c18 : (ji11) ≤ (a0.size : Int)
                              · rw [if_pos c18] at H
                                have c18b0 := eq_true c18
                                have c18b1 : decide ((ji11) ≤ (a0.size : Int)) = true := decide_eq_true c18
                                clear c18
                                replace H := Option.bind_eq_some_iff.mp H
                                obtain ⟨t130, A190, H⟩ := H
                                replace H : ((vitrineref01_Crc.f kj6 (a0.extract ((ji11) : Int).toNat ((wrap64 ((ji11) + t129)) : Int).toNat)).bind fun t131 => (if t130 = t131 then (if x4_1.length < 8796093022208 then (vitrineref17_Records.l0 kj6 a0 (x4_1 ++ [a0.extract ((ji11) : Int).toNat ((wrap64 ((ji11) + t129)) : Int).toNat]) (wrap64 ((ji11) + t129))) else (none)) else (some (x4_1, x5_1)))) = some (r1, r2) := H
                                have A19 := Aside0.mk A190
                                clear A190
                                replace H := Option.bind_eq_some_iff.mp H
                                obtain ⟨t131, A200, H⟩ := H
                                replace H : (if t130 = t131 then (if x4_1.length < 8796093022208 then (vitrineref17_Records.l0 kj6 a0 (x4_1 ++ [a0.extract ((ji11) : Int).toNat ((wrap64 ((ji11) + t129)) : Int).toNat]) (wrap64 ((ji11) + t129))) else (none)) else (some (x4_1, x5_1))) = some (r1, r2) := H
                                have A20 := Aside0.mk A200
                                clear A200
                                by_cases c21 : t130 = t131
                                · rw [if_pos c21] at H
                                  have c21b0 : (t130 == t131) = true := beq_iff_eq.mpr c21
                                  have c21b1 : (t130 != t131) = false := bne_eq_false_iff_eq.mpr c21
                                  clear c21
                                  by_cases c22 : x4_1.length < 8796093022208
                                  · rw [if_pos c22] at H
                                    have LMc22 := Aside0.mk c22
                                    clear c22
                                    obtain ⟨y132, hy132⟩ : ∃ y_ : List ByteArray, y_ = (x4_1 ++ [a0.extract ((ji11) : Int).toNat ((wrap64 ((ji11) + t129)) : Int).toNat]) := ⟨_, rfl⟩
                                    replace H : (vitrineref17_Records.l0 kj6 a0 y132 (wrap64 ((ji11) + t129))) = some (r1, r2) := by first | (rw [hy132]; with_reducible exact H) | (have H2_ := (Option.bind_some _ _).symm.trans H; rw [hy132]; with_reducible exact H2_) | (have H2_ := (Option.bind_some _ _).symm.trans H; with_reducible exact H2_) | with_reducible exact H | (rw [hy132]; exact H) | exact H
                                    have Ny132 := Aside0.mk hy132
                                    clear hy132
                                    have H' := Aside0.mk H
                                    clear H
                                    go_wp2_with (first | ((with_reducible refine gate_callee (f := 85) rfl ?_); refine goesL_ (some 48) rfl rfl Try.func85 (by kernel_rfl) rfl #[.string (a0.extract ((ji15) : Int).toNat ((ji11) : Int).toNat)] rfl (by (try simp only [List.map_toArray, List.map_cons, List.map_nil]); first | done | (simp only [hji11, hji15]; rfl) | rfl | (simp only [List.length_drop, List.length_take]; rfl)) ?_; (with_reducible refine (vitrineref06_Of.calls kj6 (a0.extract ((ji15) : Int).toNat ((ji11) : Int).toNat) t130 _ A19.out).mono ?_); rintro e w' ⟨rfl, ⟨nd, rfl⟩⟩; refine ⟨_, rfl, ?_⟩) | ((with_reducible refine gate_callee (f := 86) rfl ?_); refine goesL_ (some 50) rfl rfl Try.func86 (by kernel_rfl) rfl #[.string (a0.extract ((ji11) : Int).toNat ((wrap64 ((ji11) + t129)) : Int).toNat)] rfl (by (try simp only [List.map_toArray, List.map_cons, List.map_nil]); first | done | (simp only [hji11]; rfl) | rfl | (simp only [List.length_drop, List.length_take]; rfl)) ?_; (with_reducible refine (vitrineref01_Crc.calls kj6 (a0.extract ((ji11) : Int).toNat ((wrap64 ((ji11) + t129)) : Int).toNat) t131 _ A20.out).mono ?_); rintro e w' ⟨rfl, ⟨nd, rfl⟩⟩; refine ⟨_, rfl, ?_⟩) | ((with_reducible refine gate_builtin (b := .append) (xs := #[.tmp 52, .tmp 54]) rfl ?_); (try (refine gate_guard (by rfl) ?_; dsimp only)); at_builtin; refine Kd.R_append Kd.string (w0 := w) w.heap.size rfl (.tmp 52) (.tmp 54) 22 9 (.string ⟨#[]⟩) 16 rfl Try.underlying22 info9 rfl (by decide) (by omega) u4 x4_1 (a0.extract ((ji11) : Int).toNat ((wrap64 ((ji11) + t129)) : Int).toNat) [.string (a0.extract ((ji11) : Int).toNat ((wrap64 ((ji11) + t129)) : Int).toNat)] (fun _ => True) (fun _ => False) rfl rfl ?aP (fun _ hk => hk.elim) ?aF ?aO ?aB ?aS ?aL ?_; (case aP => exact rfl); (case aB => exact (by repeat (first | (with_reducible first | exact HB.out | apply below_alloc | apply pw_below_drewN | apply below_drew1) | exact HB.out))); (case aF => exact (fun _ _ => trivial)); (case aO => exact (by (with_reducible repeat (first | apply Kd.R_alloc | apply Kd.R_drewN | apply Kd.R_drew)); exact HO_4.out)); (case aS => exact (below_size (by repeat (first | (with_reducible first | exact HB.out | apply below_alloc | apply pw_below_drewN | apply below_drew1) | exact HB.out)))); (case aL => have := LMc22.out; omega); intro v133 w23 ho hb hg hat; rw [← Ny132.out] at ho; have n0_ := Aside0.mk (hb); have n1_ := Aside0.mk (ho); clear HB; clear HO_4; have HB := n0_; have HO134 := n1_; clear n0_ n1_; clear ho hb hg hat))
                                    go_roundg kj6
                                    case measure => have := HK1.out; have := HJ6.out; omega
                                    case rel => exact ⟨(y132), (wrap64 ((ji11) + t129)), (by first | rfl | (simp; done) | (simp only [← hji11] <;> (first | rfl | simp)) | (simp [*]; done)), H', ⟨by have := HK1.out; have := HJ6.out; omega⟩, ⟨by (with_reducible repeat (first | apply Kd.R_alloc | apply Kd.R_drewN | apply Kd.R_drew)); exact HO134.out⟩, ⟨by repeat (first | (with_reducible first | exact HB.out | apply below_alloc | apply pw_below_drewN | apply below_drew1) | exact HB.out)⟩⟩
                                  · rw [if_neg c22] at H
                                    exact absurd H (by simp)
                                · rw [if_neg c21] at H
                                  have c21b0 : (t130 == t131) = false := beq_eq_false_iff_ne.mpr c21
                                  have c21b1 : (t130 != t131) = true := bne_iff_ne.mpr c21
                                  simp only [Option.some.injEq, Prod.mk.injEq] at H
                                  obtain ⟨rfl, rfl⟩ := H
                                  go_wp2_with (first | ((with_reducible refine gate_callee (f := 85) rfl ?_); refine goesL_ (some 48) rfl rfl Try.func85 (by kernel_rfl) rfl #[.string (a0.extract ((ji15) : Int).toNat ((ji11) : Int).toNat)] rfl (by (try simp only [List.map_toArray, List.map_cons, List.map_nil]); first | done | (simp only [hji11, hji15]; rfl) | rfl | (simp only [List.length_drop, List.length_take]; rfl)) ?_; (with_reducible refine (vitrineref06_Of.calls kj6 (a0.extract ((ji15) : Int).toNat ((ji11) : Int).toNat) t130 _ A19.out).mono ?_); rintro e w' ⟨rfl, ⟨nd, rfl⟩⟩; refine ⟨_, rfl, ?_⟩) | ((with_reducible refine gate_callee (f := 86) rfl ?_); refine goesL_ (some 50) rfl rfl Try.func86 (by kernel_rfl) rfl #[.string (a0.extract ((ji11) : Int).toNat ((wrap64 ((ji11) + t129)) : Int).toNat)] rfl (by (try simp only [List.map_toArray, List.map_cons, List.map_nil]); first | done | (simp only [hji11]; rfl) | rfl | (simp only [List.length_drop, List.length_take]; rfl)) ?_; (with_reducible refine (vitrineref01_Crc.calls kj6 (a0.extract ((ji11) : Int).toNat ((wrap64 ((ji11) + t129)) : Int).toNat) t131 _ A20.out).mono ?_); rintro e w' ⟨rfl, ⟨nd, rfl⟩⟩; refine ⟨_, rfl, ?_⟩))
                                  go_ret2
                                  exact ⟨_, by first | rfl | (simp [errW_none, errW_some] <;> rfl) | (simp only [← hji11, ← hji15]; first | rfl | (simp [errW_none, errW_some] <;> rfl)) | (simp [*, errW_none, errW_some] <;> rfl), by (with_reducible repeat (first | apply Kd.R_alloc | apply Kd.R_drewN | apply Kd.R_drew)); exact HO_4.out, by repeat (first | (with_reducible first | exact HB.out | apply below_alloc | apply pw_below_drewN | apply below_drew1) | exact HB.out)⟩
                              · rw [if_neg c18] at H
                                exact absurd H (by simp)
                            · rw [if_neg c17] at H
                              exact absurd H (by simp)
                          · rw [if_neg c16] at H
                            exact absurd H (by simp)
                        · rw [if_neg c14] at H
                          exact absurd H (by simp)
                      · rw [if_neg c13] at H
                        exact absurd H (by simp)
                    · rw [if_neg c12] at H
                      exact absurd H (by simp)
            · rw [if_neg c5] at H
              exact absurd H (by simp)
          · rw [if_neg c4] at H
            exact absurd H (by simp)
        · rw [if_neg c3] at H
          exact absurd H (by simp)
      · rw [if_neg c2] at H
        have c2b0 : decide (8 ≤ (wrap64 ((a0.size : Int) - x5_1))) = false := decide_eq_false c2
        clear c2
        simp only [Option.some.injEq, Prod.mk.injEq] at H
        obtain ⟨rfl, rfl⟩ := H
        go_wp2
        go_ret2
        exact ⟨_, by first | rfl | (simp [errW_none, errW_some] <;> rfl) | (simp [*, errW_none, errW_some] <;> rfl), by (with_reducible repeat (first | apply Kd.R_alloc | apply Kd.R_drewN | apply Kd.R_drew)); exact HO_4.out, by repeat (first | (with_reducible first | exact HB.out | apply below_alloc | apply pw_below_drewN | apply below_drew1) | exact HB.out)⟩

/-! ### vitrineref17_holds: function 68 -/
def vitrineref17_holds.f (k : Nat) (a0 : ByteArray) : Option (List ByteArray × Int × Bool) := (vitrineref17_Records.f k a0).bind fun bt135 => (if (bt135.1.length : Int) = 0 then (some (([] : List ByteArray), 0, false)) else (if 0 < (bt135.1.length : Int) then (if ((rdOf ByteArray.empty bt135.1 0).size : Int) = 4 then ((vitrineref06_Of.f k (rdOf ByteArray.empty bt135.1 0)).bind fun t141 => (if t141 > (wrap64 ((bt135.1.length : Int) - 1)) then (some (([] : List ByteArray), 0, false)) else (if 1 ≤ (bt135.1.length : Int) then (some ((bt135.1.drop (1 : Int).toNat), bt135.2, true)) else (none)))) else (some (([] : List ByteArray), 0, false))) else (none)))
theorem vitrineref17_holds.mono : ∀ a0 k, LeO (vitrineref17_holds.f k a0) (vitrineref17_holds.f (k + 1) a0) := by
  intro a0 k
  unfold vitrineref17_holds.f
  repeat' first
      | (with_reducible exact vitrineref06_Of.mono _ _)
      | (with_reducible exact vitrineref17_Records.mono _ _)
      | (with_reducible exact LeO.refl _)
      | (with_reducible exact LeO.none _)
      | (with_reducible refine LeO.ite ?_ ?_)
      | (with_reducible refine LeO.bind ?_ (fun _ => ?_))
      | exact vitrineref06_Of.mono _ _
      | exact vitrineref17_Records.mono _ _
      | exact LeO.none _
      | refine LeO.ite ?_ ?_
      | refine LeO.bind ?_ (fun _ => ?_)
set_option maxHeartbeats 8000000 in
set_option maxRecDepth 100000 in
theorem vitrineref17_holds.calls (k : Nat) (a0 : ByteArray) (r1 : List ByteArray) (r2 : Int) (r3 : Bool) (w : World) (h : vitrineref17_holds.f k a0 = some (r1, r2, r3)) :
    Calls Try.prog 68 #[.string a0] w fun e w' => ∃ v0_ : Value, e = .returned (.tuple #[v0_, .int .i64 r2, .bool r3]) ∧ Kd.Q Kd.string 9 w' w.heap.size (fun _ => True) v0_ r1 ∧ Below w.heap.size w w' := by
  have HB := Aside0.mk (Below.refl w.heap.size w)
  have H : ((vitrineref17_Records.f k a0).bind fun bt135 => (if (bt135.1.length : Int) = 0 then (some (([] : List ByteArray), 0, false)) else (if 0 < (bt135.1.length : Int) then (if ((rdOf ByteArray.empty bt135.1 0).size : Int) = 4 then ((vitrineref06_Of.f k (rdOf ByteArray.empty bt135.1 0)).bind fun t141 => (if t141 > (wrap64 ((bt135.1.length : Int) - 1)) then (some (([] : List ByteArray), 0, false)) else (if 1 ≤ (bt135.1.length : Int) then (some ((bt135.1.drop (1 : Int).toNat), bt135.2, true)) else (none)))) else (some (([] : List ByteArray), 0, false))) else (none)))) = some (r1, r2, r3) := h
  clear h
  replace H := Option.bind_eq_some_iff.mp H
  obtain ⟨⟨t135, t136⟩, A20, H⟩ := H
  replace H : (if (t135.length : Int) = 0 then (some (([] : List ByteArray), 0, false)) else (if 0 < (t135.length : Int) then (if ((rdOf ByteArray.empty t135 0).size : Int) = 4 then ((vitrineref06_Of.f k (rdOf ByteArray.empty t135 0)).bind fun t141 => (if t141 > (wrap64 ((t135.length : Int) - 1)) then (some (([] : List ByteArray), 0, false)) else (if 1 ≤ (t135.length : Int) then (some ((t135.drop (1 : Int).toNat), t136, true)) else (none)))) else (some (([] : List ByteArray), 0, false))) else (none))) = some (r1, r2, r3) := H
  have A2 := Aside0.mk A20
  clear A20
  by_cases c3 : (t135.length : Int) = 0
  · rw [if_pos c3] at H
    have c3b0 : ((t135.length : Int) == 0) = true := beq_iff_eq.mpr c3
    have c3b1 : ((t135.length : Int) != 0) = false := bne_eq_false_iff_eq.mpr c3
    clear c3
    simp only [Option.some.injEq, Prod.mk.injEq] at H
    obtain ⟨rfl, rfl, rfl⟩ := H
    go_enter Try.func68, Try.ntmps68
    go_wp2_with (first | ((with_reducible refine gate_callee (f := 84) rfl ?_); refine goesL_ (some 9) rfl rfl Try.func84 (by kernel_rfl) rfl #[.string a0] rfl (by (try simp only [List.map_toArray, List.map_cons, List.map_nil]); first | done | rfl | (simp only [List.length_drop, List.length_take]; rfl)) ?_; (with_reducible refine (vitrineref17_Records.calls k a0 t135 t136 _ A2.out).mono ?_); rintro e w4 ⟨v137, rfl, ho0, hb⟩; refine ⟨_, rfl, ?_⟩; have n0_ := Aside0.mk (Kd.R_lower ho0 (below_size (by repeat (first | (with_reducible first | exact HB.out | apply below_alloc | apply pw_below_drewN | apply below_drew1) | exact HB.out)))); have n1_ := Aside0.mk (below_step (by repeat (first | (with_reducible first | exact HB.out | apply below_alloc | apply pw_below_drewN | apply below_drew1) | exact HB.out)) hb); clear HB; have HO138 := n0_; have HB := n1_; clear n0_ n1_; (try clear hb); (try clear hb2); (try clear hk); (try clear hi); (try clear ho0); obtain ⟨Ao5, co5, eo5⟩ := Kd.R_slice HO138.out; subst eo5))
    go_ret3
    exact ⟨_, by first | rfl | (simp [errW_none, errW_some] <;> rfl) | (simp [*, errW_none, errW_some] <;> rfl), Kd.Q_of_R (by first | exact Kd.R_nil _ _ _ _ _ | exact Kd.N_nil _ _ _ _ _ | exact Kd.V_nil _ _ _ _ _ | exact Kd.Q_nil _ _ _ _ _ | exact Kd.S_nil _ _ _ _ _), by repeat (first | (with_reducible first | exact HB.out | apply below_alloc | apply pw_below_drewN | apply below_drew1) | exact HB.out)⟩
  · rw [if_neg c3] at H
    have c3b0 : ((t135.length : Int) == 0) = false := beq_eq_false_iff_ne.mpr c3
    have c3b1 : ((t135.length : Int) != 0) = true := bne_iff_ne.mpr c3
    have c3b2 : ¬ (t135 = []) := fun h_ => c3 (by rw [h_]; rfl)
    by_cases c6 : 0 < (t135.length : Int)
    · rw [if_pos c6] at H
      have c6b0 : decide (0 < (t135.length : Int)) = true := decide_eq_true c6
      have c6b1 : decide (0 < t135.length) = true := decide_eq_true (by omega)
      clear c6
      by_cases c7 : ((rdOf ByteArray.empty t135 0).size : Int) = 4
      · rw [if_pos c7] at H
        have c7b0 : (((rdOf ByteArray.empty t135 0).size : Int) == 4) = true := beq_iff_eq.mpr c7
        have c7b1 : (((rdOf ByteArray.empty t135 0).size : Int) != 4) = false := bne_eq_false_iff_eq.mpr c7
        clear c7
        replace H := Option.bind_eq_some_iff.mp H
        obtain ⟨t141, A80, H⟩ := H
        replace H : (if t141 > (wrap64 ((t135.length : Int) - 1)) then (some (([] : List ByteArray), 0, false)) else (if 1 ≤ (t135.length : Int) then (some ((t135.drop (1 : Int).toNat), t136, true)) else (none))) = some (r1, r2, r3) := H
        have A8 := Aside0.mk A80
        clear A80
        by_cases c9 : t141 > (wrap64 ((t135.length : Int) - 1))
        · rw [if_pos c9] at H
          have c9b0 : decide ((wrap64 ((t135.length : Int) - 1)) < t141) = true := decide_eq_true c9
          clear c9
          simp only [Option.some.injEq, Prod.mk.injEq] at H
          obtain ⟨rfl, rfl, rfl⟩ := H
          go_enter Try.func68, Try.ntmps68
          go_wp2_with (first | ((with_reducible refine gate_callee (f := 84) rfl ?_); refine goesL_ (some 9) rfl rfl Try.func84 (by kernel_rfl) rfl #[.string a0] rfl (by (try simp only [List.map_toArray, List.map_cons, List.map_nil]); first | done | rfl | (simp only [List.length_drop, List.length_take]; rfl)) ?_; (with_reducible refine (vitrineref17_Records.calls k a0 t135 t136 _ A2.out).mono ?_); rintro e w10 ⟨v137, rfl, ho0, hb⟩; refine ⟨_, rfl, ?_⟩; have n0_ := Aside0.mk (Kd.R_lower ho0 (below_size (by repeat (first | (with_reducible first | exact HB.out | apply below_alloc | apply pw_below_drewN | apply below_drew1) | exact HB.out)))); have n1_ := Aside0.mk (below_step (by repeat (first | (with_reducible first | exact HB.out | apply below_alloc | apply pw_below_drewN | apply below_drew1) | exact HB.out)) hb); clear HB; have HO138 := n0_; have HB := n1_; clear n0_ n1_; (try clear hb); (try clear hb2); (try clear hk); (try clear hi); (try clear ho0); obtain ⟨Ao11, co11, eo11⟩ := Kd.R_slice HO138.out; subst eo11; have p139 : 0 ≤ (0 : Int) := (by omega); have q139 : 0 < (t135.length : Int) := of_decide_eq_true (by first | (with_reducible assumption) | assumption); obtain ⟨ad139, e139, hx139_0⟩ := Kd.at_string (Kd.R_reads' HO138.out).2.2 0 p139 q139; cases e139; have qi139 : (0 < t135.length) = True := eq_true (by omega); (try rw [show ((0 : Int)).toNat = 0 from rfl] at hx139_0); (try rw [Addr.add_zero'] at hx139_0); replace p139 := eq_true p139; replace q139 := eq_true q139; have p140 : 0 ≤ (0 : Int) := (by omega); have q140 : 0 < (t135.length : Int) := of_decide_eq_true (by first | (with_reducible assumption) | assumption); obtain ⟨ad140, e140, hx140_0⟩ := Kd.at_string (Kd.R_reads' HO138.out).2.2 0 p140 q140; obtain rfl : ad139 = ad140 := (by injection e140); have qi140 : (0 < t135.length) = True := eq_true (by omega); (try rw [show ((0 : Int)).toNat = 0 from rfl] at hx140_0); (try rw [Addr.add_zero'] at hx140_0); replace p140 := eq_true p140; replace q140 := eq_true q140) | (go_at_call 85; (with_reducible refine (vitrineref06_Of.calls k (rdOf ByteArray.empty t135 0) t141 _ A8.out).mono ?_); rintro e w' ⟨rfl, ⟨nd, rfl⟩⟩))
          go_ret3
          exact ⟨_, by first | rfl | (simp [errW_none, errW_some] <;> rfl) | (simp [*, errW_none, errW_some] <;> rfl), Kd.Q_of_R (by first | exact Kd.R_nil _ _ _ _ _ | exact Kd.N_nil _ _ _ _ _ | exact Kd.V_nil _ _ _ _ _ | exact Kd.Q_nil _ _ _ _ _ | exact Kd.S_nil _ _ _ _ _), by repeat (first | (with_reducible first | exact HB.out | apply below_alloc | apply pw_below_drewN | apply below_drew1) | exact HB.out)⟩
        · rw [if_neg c9] at H
          have c9b0 : decide ((wrap64 ((t135.length : Int) - 1)) < t141) = false := decide_eq_false c9
          clear c9
          by_cases c12 : 1 ≤ (t135.length : Int)
          · rw [if_pos c12] at H
            have c12b0 := eq_true c12
            have c12b1 : decide (1 ≤ (t135.length : Int)) = true := decide_eq_true c12
            clear c12
            obtain ⟨y142, hy142⟩ : ∃ y_ : List ByteArray, y_ = (t135.drop (1 : Int).toNat) := ⟨_, rfl⟩
            replace H : (some (y142, t136, true)) = some (r1, r2, r3) := by first | (rw [hy142]; with_reducible exact H) | (have H2_ := (Option.bind_some _ _).symm.trans H; rw [hy142]; with_reducible exact H2_) | (have H2_ := (Option.bind_some _ _).symm.trans H; with_reducible exact H2_) | with_reducible exact H | (rw [hy142]; exact H) | exact H
            have Ny142 := Aside0.mk hy142
            clear hy142
            simp only [Option.some.injEq, Prod.mk.injEq] at H
            obtain ⟨rfl, rfl, rfl⟩ := H
            go_enter Try.func68, Try.ntmps68
            go_wp2_with (first | ((with_reducible refine gate_callee (f := 84) rfl ?_); refine goesL_ (some 9) rfl rfl Try.func84 (by kernel_rfl) rfl #[.string a0] rfl (by (try simp only [List.map_toArray, List.map_cons, List.map_nil]); first | done | rfl | (simp only [List.length_drop, List.length_take]; rfl)) ?_; (with_reducible refine (vitrineref17_Records.calls k a0 t135 t136 _ A2.out).mono ?_); rintro e w13 ⟨v137, rfl, ho0, hb⟩; refine ⟨_, rfl, ?_⟩; have n0_ := Aside0.mk (Kd.R_lower ho0 (below_size (by repeat (first | (with_reducible first | exact HB.out | apply below_alloc | apply pw_below_drewN | apply below_drew1) | exact HB.out)))); have n1_ := Aside0.mk (below_step (by repeat (first | (with_reducible first | exact HB.out | apply below_alloc | apply pw_below_drewN | apply below_drew1) | exact HB.out)) hb); clear HB; have HO138 := n0_; have HB := n1_; clear n0_ n1_; (try clear hb); (try clear hb2); (try clear hk); (try clear hi); (try clear ho0); obtain ⟨Ao14, co14, eo14⟩ := Kd.R_slice HO138.out; subst eo14; have p139 : 0 ≤ (0 : Int) := (by omega); have q139 : 0 < (t135.length : Int) := of_decide_eq_true (by first | (with_reducible assumption) | assumption); obtain ⟨ad139, e139, hx139_0⟩ := Kd.at_string (Kd.R_reads' HO138.out).2.2 0 p139 q139; cases e139; have qi139 : (0 < t135.length) = True := eq_true (by omega); (try rw [show ((0 : Int)).toNat = 0 from rfl] at hx139_0); (try rw [Addr.add_zero'] at hx139_0); replace p139 := eq_true p139; replace q139 := eq_true q139; have p140 : 0 ≤ (0 : Int) := (by omega); have q140 : 0 < (t135.length : Int) := of_decide_eq_true (by first | (with_reducible assumption) | assumption); obtain ⟨ad140, e140, hx140_0⟩ := Kd.at_string (Kd.R_reads' HO138.out).2.2 0 p140 q140; obtain rfl : ad139 = ad140 := (by injection e140); have qi140 : (0 < t135.length) = True := eq_true (by omega); (try rw [show ((0 : Int)).toNat = 0 from rfl] at hx140_0); (try rw [Addr.add_zero'] at hx140_0); replace p140 := eq_true p140; replace q140 := eq_true q140) | (go_at_call 85; (with_reducible refine (vitrineref06_Of.calls k (rdOf ByteArray.empty t135 0) t141 _ A8.out).mono ?_); rintro e w' ⟨rfl, ⟨nd, rfl⟩⟩; have q15 : (1 : Int) ≤ ((t135.length : Int) : Int) := of_decide_eq_true (by first | (with_reducible assumption) | assumption); obtain ⟨i015, hi015, _, hsz15, _⟩ := info_parts info9; have hcut15 := cut_from (P := Try.prog) 22 9 .i64 Try.underlying22 hi015 1 hsz15 (some ad139) t135.length co14 1 (by omega) q15; have hr15 := Kd.Q_drop (k := (1 : Int).toNat) (Kd.Q_of_R HO138.out) (by omega); obtain ⟨A15, hA15⟩ : ∃ A1, A1 = (if co14 = (1 : Int).toNat then (some ad139) else ((some ad139) : Option Addr).map (·.add ((1 : Int).toNat * 1))) := ⟨_, rfl⟩; obtain ⟨c15, hc15⟩ : ∃ c1, c1 = co14 - (1 : Int).toNat := ⟨_, rfl⟩; have hy15 : y142.length = t135.length - (1 : Int).toNat := (by rw [Ny142.out, List.length_drop]); rw [← Ny142.out] at hr15; rw [← hy15, ← hA15, ← hc15] at hcut15; replace hr15 : Kd.Q Kd.string 9 w13 w.heap.size (fun _ => True) (.slice A15 y142.length c15) y142 := (by rw [hA15, hc15, hy15]; exact hr15); have HE15 : Aside0 ((Value.slice A15 y142.length c15).ownBlock = (.slice (some ad139) t135.length co14 : Value).ownBlock) := ⟨by rw [hA15]; split <;> (cases ((some ad139) : Option Addr) <;> rfl)⟩; clear hy15 hi015 hsz15 HO138 hA15 hc15; have HO144 := Aside0.mk hr15; clear hr15; replace q15 := eq_true q15))
            go_ret3
            exact ⟨_, by first | rfl | (simp [errW_none, errW_some] <;> rfl) | (simp [*, errW_none, errW_some] <;> rfl), by (with_reducible repeat (first | apply Kd.Q_alloc | apply Kd.Q_drewN | apply Kd.Q_drew)); exact HO144.out, by repeat (first | (with_reducible first | exact HB.out | apply below_alloc | apply pw_below_drewN | apply below_drew1) | exact HB.out)⟩
          · rw [if_neg c12] at H
            exact absurd H (by simp)
      · rw [if_neg c7] at H
        have c7b0 : (((rdOf ByteArray.empty t135 0).size : Int) == 4) = false := beq_eq_false_iff_ne.mpr c7
        have c7b1 : (((rdOf ByteArray.empty t135 0).size : Int) != 4) = true := bne_iff_ne.mpr c7
        simp only [Option.some.injEq, Prod.mk.injEq] at H
        obtain ⟨rfl, rfl, rfl⟩ := H
        go_enter Try.func68, Try.ntmps68
        go_wp2_with (first | ((with_reducible refine gate_callee (f := 84) rfl ?_); refine goesL_ (some 9) rfl rfl Try.func84 (by kernel_rfl) rfl #[.string a0] rfl (by (try simp only [List.map_toArray, List.map_cons, List.map_nil]); first | done | rfl | (simp only [List.length_drop, List.length_take]; rfl)) ?_; (with_reducible refine (vitrineref17_Records.calls k a0 t135 t136 _ A2.out).mono ?_); rintro e w16 ⟨v137, rfl, ho0, hb⟩; refine ⟨_, rfl, ?_⟩; have n0_ := Aside0.mk (Kd.R_lower ho0 (below_size (by repeat (first | (with_reducible first | exact HB.out | apply below_alloc | apply pw_below_drewN | apply below_drew1) | exact HB.out)))); have n1_ := Aside0.mk (below_step (by repeat (first | (with_reducible first | exact HB.out | apply below_alloc | apply pw_below_drewN | apply below_drew1) | exact HB.out)) hb); clear HB; have HO138 := n0_; have HB := n1_; clear n0_ n1_; (try clear hb); (try clear hb2); (try clear hk); (try clear hi); (try clear ho0); obtain ⟨Ao17, co17, eo17⟩ := Kd.R_slice HO138.out; subst eo17; have p139 : 0 ≤ (0 : Int) := (by omega); have q139 : 0 < (t135.length : Int) := of_decide_eq_true (by first | (with_reducible assumption) | assumption); obtain ⟨ad139, e139, hx139_0⟩ := Kd.at_string (Kd.R_reads' HO138.out).2.2 0 p139 q139; cases e139; have qi139 : (0 < t135.length) = True := eq_true (by omega); (try rw [show ((0 : Int)).toNat = 0 from rfl] at hx139_0); (try rw [Addr.add_zero'] at hx139_0); replace p139 := eq_true p139; replace q139 := eq_true q139))
        go_ret3
        exact ⟨_, by first | rfl | (simp [errW_none, errW_some] <;> rfl) | (simp [*, errW_none, errW_some] <;> rfl), Kd.Q_of_R (by first | exact Kd.R_nil _ _ _ _ _ | exact Kd.N_nil _ _ _ _ _ | exact Kd.V_nil _ _ _ _ _ | exact Kd.Q_nil _ _ _ _ _ | exact Kd.S_nil _ _ _ _ _), by repeat (first | (with_reducible first | exact HB.out | apply below_alloc | apply pw_below_drewN | apply below_drew1) | exact HB.out)⟩
    · rw [if_neg c6] at H
      exact absurd H (by simp)

/-! ### vitrineref06_Four: function 71 -/
def vitrineref06_Four.f (a0 : Int) : Option (ByteArray) := some (strOfNums (([(wrap64 (Int.tdiv a0 16777216)) % 256, (wrap64 (Int.tdiv a0 65536)) % 256, (wrap64 (Int.tdiv a0 256)) % 256, (a0) % 256] : List Int)))
set_option maxHeartbeats 8000000 in
set_option maxRecDepth 100000 in
theorem vitrineref06_Four.calls (a0 : Int) (r : ByteArray) (w : World) (h : vitrineref06_Four.f a0 = some r) :
    Calls Try.prog 71 #[.int .i64 a0] w fun e w' => e = .returned (.string r) ∧ Below w.heap.size w w' := by
  have HB := Aside0.mk (Below.refl w.heap.size w)
  have H : (some (strOfNums (([(wrap64 (Int.tdiv a0 16777216)) % 256, (wrap64 (Int.tdiv a0 65536)) % 256, (wrap64 (Int.tdiv a0 256)) % 256, (a0) % 256] : List Int)))) = some r := h
  clear h
  obtain ⟨y145, hy145⟩ : ∃ y_ : List Int, y_ = (([(wrap64 (Int.tdiv a0 16777216)) % 256, (wrap64 (Int.tdiv a0 65536)) % 256, (wrap64 (Int.tdiv a0 256)) % 256, (a0) % 256] : List Int)) := ⟨_, rfl⟩
  replace H : (some (strOfNums y145)) = some r := by first | (rw [hy145]; with_reducible exact H) | (have H2_ := (Option.bind_some _ _).symm.trans H; rw [hy145]; with_reducible exact H2_) | (have H2_ := (Option.bind_some _ _).symm.trans H; with_reducible exact H2_) | with_reducible exact H | (rw [hy145]; exact H) | exact H
  have Ny145 := Aside0.mk hy145
  clear hy145
  obtain rfl := Option.some.inj H
  go_enter Try.func71, Try.ntmps71
  go_wp2_with (first | ((with_reducible refine gate_dst (N := 14) rfl ?_); refine Kd.R_lit (Kd.int .u8) _ 5 ?hg (N := 14) ?hd (xs := ([(wrap64 (Int.tdiv a0 16777216)) % 256, (wrap64 (Int.tdiv a0 65536)) % 256, (wrap64 (Int.tdiv a0 256)) % 256, (a0) % 256] : List Int)) (inner := [.int .u8 ((wrap64 (Int.tdiv a0 16777216)) % 256), .int .u8 ((wrap64 (Int.tdiv a0 65536)) % 256), .int .u8 ((wrap64 (Int.tdiv a0 256)) % 256), .int .u8 ((a0) % 256)]) (ok := fun _ => True) (okp := fun _ => True) ?hr ?hp (fun _ hk => hk) trivial (Below.refl _ _) (Nat.le_refl _) (by simp) ?_; (case hd => rfl); (case hg => rfl); (case hr => first | (go_simp; done) | (go_simp; rfl)); (case hp => exact (Reps.one (show Kd.M (Kd.int .u8) _ _ _ ((wrap64 (Int.tdiv a0 16777216)) % 256) [.int .u8 ((wrap64 (Int.tdiv a0 16777216)) % 256)] from rfl) (Reps.one (show Kd.M (Kd.int .u8) _ _ _ ((wrap64 (Int.tdiv a0 65536)) % 256) [.int .u8 ((wrap64 (Int.tdiv a0 65536)) % 256)] from rfl) (Reps.one (show Kd.M (Kd.int .u8) _ _ _ ((wrap64 (Int.tdiv a0 256)) % 256) [.int .u8 ((wrap64 (Int.tdiv a0 256)) % 256)] from rfl) (Reps.one (show Kd.M (Kd.int .u8) _ _ _ ((a0) % 256) [.int .u8 ((a0) % 256)] from rfl) (Reps.none _ _)))))); intro v146 w2 ho3 hb hg_ hnew_; clear hg_ hnew_; (first | rw [← Ny145.out] at ho3 | (simp only [Int.reduceToNat] at ho3; rw [← Ny145.out] at ho3)); have n0_ := Aside0.mk (Kd.R_lower ho3 (below_size (by repeat (first | (with_reducible first | exact HB.out | apply below_alloc | apply pw_below_drewN | apply below_drew1) | exact HB.out)))); have n1_ := Aside0.mk (below_step (by repeat (first | (with_reducible first | exact HB.out | apply below_alloc | apply pw_below_drewN | apply below_drew1) | exact HB.out)) hb); clear HB; have HO147 := n0_; have HB := n1_; clear n0_ n1_; clear hb ho3; have hcv4 := own_string (P := Try.prog) Try.underlying83 Try.underlying5 Try.underlying9 (Kd.own_of_R HO147.out)))
  go_ret
  exact ⟨by first | rfl | (simp [errW_none, errW_some] <;> rfl) | (simp [*, errW_none, errW_some] <;> rfl), by repeat (first | (with_reducible first | exact HB.out | apply below_alloc | apply pw_below_drewN | apply below_drew1) | exact HB.out)⟩

/-! ### vitrineref17_Frame: function 70 -/
def vitrineref17_Frame.f (k : Nat) (a0 : ByteArray) : Option (ByteArray) := (vitrineref06_Four.f (a0.size : Int)).bind fun t148 => ((vitrineref01_Crc.f k a0).bind fun t149 => ((vitrineref06_Four.f t149).bind fun t150 => (if t148.size + t150.size ≤ 9223372036854775807 then (if (t148 ++ t150).size + a0.size ≤ 9223372036854775807 then (some ((t148 ++ t150) ++ a0)) else (none)) else (none))))
theorem vitrineref17_Frame.mono : ∀ a0 k, LeO (vitrineref17_Frame.f k a0) (vitrineref17_Frame.f (k + 1) a0) := by
  intro a0 k
  unfold vitrineref17_Frame.f
  repeat' first
      | (with_reducible exact vitrineref01_Crc.mono _ _)
      | (with_reducible exact LeO.refl _)
      | (with_reducible exact LeO.none _)
      | (with_reducible refine LeO.ite ?_ ?_)
      | (with_reducible refine LeO.bind ?_ (fun _ => ?_))
      | exact vitrineref01_Crc.mono _ _
      | exact LeO.none _
      | refine LeO.ite ?_ ?_
      | refine LeO.bind ?_ (fun _ => ?_)
set_option maxHeartbeats 8000000 in
set_option maxRecDepth 100000 in
theorem vitrineref17_Frame.calls (k : Nat) (a0 : ByteArray) (r : ByteArray) (w : World) (h : vitrineref17_Frame.f k a0 = some r) :
    Calls Try.prog 70 #[.string a0] w fun e w' => e = .returned (.string r) ∧ Below w.heap.size w w' := by
  have HB := Aside0.mk (Below.refl w.heap.size w)
  have H : ((vitrineref06_Four.f (a0.size : Int)).bind fun t148 => ((vitrineref01_Crc.f k a0).bind fun t149 => ((vitrineref06_Four.f t149).bind fun t150 => (if t148.size + t150.size ≤ 9223372036854775807 then (if (t148 ++ t150).size + a0.size ≤ 9223372036854775807 then (some ((t148 ++ t150) ++ a0)) else (none)) else (none))))) = some r := h
  clear h
  replace H := Option.bind_eq_some_iff.mp H
  obtain ⟨t148, A20, H⟩ := H
  replace H : ((vitrineref01_Crc.f k a0).bind fun t149 => ((vitrineref06_Four.f t149).bind fun t150 => (if t148.size + t150.size ≤ 9223372036854775807 then (if (t148 ++ t150).size + a0.size ≤ 9223372036854775807 then (some ((t148 ++ t150) ++ a0)) else (none)) else (none)))) = some r := H
  have A2 := Aside0.mk A20
  clear A20
  replace H := Option.bind_eq_some_iff.mp H
  obtain ⟨t149, A30, H⟩ := H
  replace H : ((vitrineref06_Four.f t149).bind fun t150 => (if t148.size + t150.size ≤ 9223372036854775807 then (if (t148 ++ t150).size + a0.size ≤ 9223372036854775807 then (some ((t148 ++ t150) ++ a0)) else (none)) else (none))) = some r := H
  have A3 := Aside0.mk A30
  clear A30
  replace H := Option.bind_eq_some_iff.mp H
  obtain ⟨t150, A40, H⟩ := H
  replace H : (if t148.size + t150.size ≤ 9223372036854775807 then (if (t148 ++ t150).size + a0.size ≤ 9223372036854775807 then (some ((t148 ++ t150) ++ a0)) else (none)) else (none)) = some r := H
  have A4 := Aside0.mk A40
  clear A40
  by_cases c5 : t148.size + t150.size ≤ 9223372036854775807
  · rw [if_pos c5] at H
    have c5b0 := eq_true c5
    have c5b1 : decide (t148.size + t150.size ≤ 9223372036854775807) = true := decide_eq_true c5
    try have c5b2 : (9223372036854775807 < t148.size + t150.size) = False := eq_false (Nat.not_lt.2 c5)
    by_cases c6 : (t148 ++ t150).size + a0.size ≤ 9223372036854775807
    · rw [if_pos c6] at H
      have c6b0 := eq_true c6
      have c6b1 : decide ((t148 ++ t150).size + a0.size ≤ 9223372036854775807) = true := decide_eq_true c6
      try have c6b2 : (9223372036854775807 < (t148 ++ t150).size + a0.size) = False := eq_false (Nat.not_lt.2 c6)
      obtain rfl := Option.some.inj H
      go_enter Try.func70, Try.ntmps70
      go_wp2_with (first | ((with_reducible refine gate_callee (f := 71) rfl ?_); refine goesL_ (some 5) rfl rfl Try.func71 (by kernel_rfl) rfl #[.int .i64 (a0.size : Int)] rfl (by (try simp only [List.map_toArray, List.map_cons, List.map_nil]); first | done | rfl | (simp only [List.length_drop, List.length_take]; rfl)) ?_; (with_reducible refine (vitrineref06_Four.calls (a0.size : Int) t148 _ A2.out).mono ?_); rintro e w7 ⟨rfl, hb⟩; refine ⟨_, rfl, ?_⟩; have n0_ := Aside0.mk (below_step (by repeat (first | (with_reducible first | exact HB.out | apply below_alloc | apply pw_below_drewN | apply below_drew1) | exact HB.out)) hb); clear HB; have HB := n0_; clear n0_; (try clear hb); (try clear hb2); (try clear hk); (try clear hi)) | ((with_reducible refine gate_callee (f := 86) rfl ?_); refine goesL_ (some 7) rfl rfl Try.func86 (by kernel_rfl) rfl #[.string a0] rfl (by (try simp only [List.map_toArray, List.map_cons, List.map_nil]); first | done | rfl | (simp only [List.length_drop, List.length_take]; rfl)) ?_; (with_reducible refine (vitrineref01_Crc.calls k a0 t149 _ A3.out).mono ?_); rintro e w' ⟨rfl, ⟨nd, rfl⟩⟩; refine ⟨_, rfl, ?_⟩) | ((with_reducible refine gate_callee (f := 71) rfl ?_); refine goesL_ (some 8) rfl rfl Try.func71 (by kernel_rfl) rfl #[.int .i64 t149] rfl (by (try simp only [List.map_toArray, List.map_cons, List.map_nil]); first | done | rfl | (simp only [List.length_drop, List.length_take]; rfl)) ?_; (with_reducible refine (vitrineref06_Four.calls t149 t150 _ A4.out).mono ?_); rintro e w8 ⟨rfl, hb⟩; refine ⟨_, rfl, ?_⟩; have n0_ := Aside0.mk (below_step (by repeat (first | (with_reducible first | exact HB.out | apply below_alloc | apply pw_below_drewN | apply below_drew1) | exact HB.out)) hb); clear HB; have HB := n0_; clear n0_; (try clear hb); (try clear hb2); (try clear hk); (try clear hi)))
      go_ret
      exact ⟨by first | rfl | (simp [errW_none, errW_some] <;> rfl) | (simp [*, errW_none, errW_some] <;> rfl), by repeat (first | (with_reducible first | exact HB.out | apply below_alloc | apply pw_below_drewN | apply below_drew1) | exact HB.out)⟩
    · rw [if_neg c6] at H
      exact absurd H (by simp)
  · rw [if_neg c5] at H
    exact absurd H (by simp)

end Go.Proofs.Ytljfagagopaidaa.Lf
