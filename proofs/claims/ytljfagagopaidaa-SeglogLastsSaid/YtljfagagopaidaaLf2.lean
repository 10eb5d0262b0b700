-- PRINTED by print.py (a twelfth state) out of the translation. Not trusted: Lean checks it.
import Derived.Test.YtljfagagopaidaaLf0
import Derived.Test.YtljfagagopaidaaLf1
namespace Go.Proofs.Ytljfagagopaidaa.Lf
open Go.RowKit Go.Proofs.YtljfagagopaidaaW.PrintWords Go.Proofs.YtljfagagopaidaaW.PrintLast Go.Proofs.YtljfagagopaidaaW.PrintMore
attribute [local go_sem] max2_int min2_int max_two min_two max_three min_three max_four min_four   -- for this text's walks alone
set_option linter.unusedVariables false
set_option linter.unusedSimpArgs false

/-! ### seglog_next: function 90 -/
def seglog_next.j0 : Nat → ByteArray → Int → Bool → Option (ByteArray × Bool)
  | 0, _, _, _ => none
  | k + 1, x0, x4, x23 => if x23 = true then (some ((⟨#[]⟩ : ByteArray), false)) else (if 8 ≤ (wrap64 (8 + x4)) then (if (wrap64 (8 + x4)) ≤ (x0.size : Int) then (if 4 ≤ (x0.size : Int) then ((seglog_number.f (x0.extract 4 x0.size)).bind fun t111 => ((bits_Crc.f k (x0.extract 8 ((wrap64 (8 + x4)) : Int).toNat)).bind fun t112 => (some (x0.extract 8 ((wrap64 (8 + x4)) : Int).toNat, (t111 == t112))))) else (none)) else (none)) else (none))
def seglog_next.f (k : Nat) (a0 : ByteArray) : Option (ByteArray × Bool) := if (a0.size : Int) < 8 then (some ((⟨#[]⟩ : ByteArray), false)) else ((seglog_number.f a0).bind fun t110 => (if t110 = 0 then (seglog_next.j0 k a0 t110 true) else (if t110 > 1000000 then (seglog_next.j0 k a0 t110 true) else (seglog_next.j0 k a0 t110 (decide (t110 > (wrap64 ((a0.size : Int) - 8))))))))
theorem seglog_next.mono_l : ∀ k, (∀ y0 y1 y2, LeO (seglog_next.j0 k y0 y1 y2) (seglog_next.j0 (k + 1) y0 y1 y2))
  | 0 => fun _ _ _ r h => by simp [seglog_next.j0] at h
  | k + 1 => by
    have ih0 := seglog_next.mono_l k
    · intro y0 y1 y2
      unfold seglog_next.j0
      repeat' first
      | (with_reducible exact ih0 _ _ _)
      | (with_reducible exact bits_Crc.mono _ _)
      | (with_reducible exact LeO.refl _)
      | (with_reducible exact LeO.none _)
      | (with_reducible refine LeO.ite ?_ ?_)
      | (with_reducible refine LeO.bind ?_ (fun _ => ?_))
      | exact ih0 _ _ _
      | exact bits_Crc.mono _ _
      | exact LeO.none _
      | refine LeO.ite ?_ ?_
      | refine LeO.bind ?_ (fun _ => ?_)
theorem seglog_next.mono : ∀ a0 k, LeO (seglog_next.f k a0) (seglog_next.f (k + 1) a0) := by
  intro a0 k
  have ih0 := seglog_next.mono_l k
  unfold seglog_next.f
  repeat' first
      | (with_reducible exact ih0 _ _ _)
      | (with_reducible exact bits_Crc.mono _ _)
      | (with_reducible exact LeO.refl _)
      | (with_reducible exact LeO.none _)
      | (with_reducible refine LeO.ite ?_ ?_)
      | (with_reducible refine LeO.bind ?_ (fun _ => ?_))
      | exact ih0 _ _ _
      | exact bits_Crc.mono _ _
      | exact LeO.none _
      | refine LeO.ite ?_ ?_
      | refine LeO.bind ?_ (fun _ => ?_)
set_option maxHeartbeats 8000000 in
set_option maxRecDepth 100000 in
theorem seglog_next.calls (k : Nat) (a0 : ByteArray) (r1 : ByteArray) (r2 : Bool) (w : World) (h : seglog_next.f k a0 = some (r1, r2)) :
    Calls Try.prog 90 #[.string a0] w fun e w' => e = .returned (.tuple #[.string r1, .bool r2]) ∧ Drawn0 w w' := by
  have H : (if (a0.size : Int) < 8 then (some ((⟨#[]⟩ : ByteArray), false)) else ((seglog_number.f a0).bind fun t110 => (if t110 = 0 then (seglog_next.j0 k a0 t110 true) else (if t110 > 1000000 then (seglog_next.j0 k a0 t110 true) else (seglog_next.j0 k a0 t110 (decide (t110 > (wrap64 ((a0.size : Int) - 8))))))))) = some (r1, r2) := h
  clear h
  by_cases c2 : (a0.size : Int) < 8
  · rw [if_pos c2] at H
    have c2b0 : decide ((a0.size : Int) < 8) = true := decide_eq_true c2
    have c2b1 : decide (a0.size < 8) = true := decide_eq_true (by omega)
    clear c2
    simp only [Option.some.injEq, Prod.mk.injEq] at H
    obtain ⟨rfl, rfl⟩ := H
    go_enter Try.func90, Try.ntmps90
    go_wp2
    go_ret2
    exact ⟨by first | rfl | (simp; done) | (simp [*]; done), by repeat (first | exact Drawn0.refl _ | apply Drawn0.step)⟩
  · rw [if_neg c2] at H
    have c2b0 : decide ((a0.size : Int) < 8) = false := decide_eq_false c2
    have c2b1 : decide (a0.size < 8) = false := decide_eq_false (by omega)
    clear c2
    replace H := Option.bind_eq_some_iff.mp H
    obtain ⟨t110, A30, H⟩ := H
    replace H : (if t110 = 0 then (seglog_next.j0 k a0 t110 true) else (if t110 > 1000000 then (seglog_next.j0 k a0 t110 true) else (seglog_next.j0 k a0 t110 (decide (t110 > (wrap64 ((a0.size : Int) - 8))))))) = some (r1, r2) := H
    have A3 := Aside0.mk A30
    clear A30
    have HC4 := Aside0.mk H
    clear H
    go_enter Try.func90, Try.ntmps90
    go_upto_region 4 with (first | ((with_reducible refine gate_callee (f := 91) rfl ?_); refine goesL_ (some 10) rfl rfl Try.func91 (by kernel_rfl) rfl #[.string a0] rfl (by (try simp only [List.map_toArray, List.map_cons, List.map_nil]); first | done | rfl | (simp only [List.length_drop, List.length_take]; rfl)) ?_; (with_reducible refine (seglog_number.calls a0 t110 _ A3.out).mono ?_); rintro e w' ⟨rfl, ⟨nd, rfl⟩⟩; refine ⟨_, rfl, ?_⟩))
    (try simp only [Act.put, List.setIfInBounds_toArray, List.set_cons_zero, List.set_cons_succ])
    go_cut [23] (fun v23 wc => ∃ (kq : Nat) (x23_3 : Bool), v23 = .bool x23_3 ∧ Aside0 (seglog_next.j0 kq a0 t110 x23_3 = some (r1, r2)) ∧ Aside0 (kq ≤ k) ∧ Drawn0 w wc)
    case first =>
      have H := HC4.out
      clear HC4
      by_cases c5 : t110 = 0
      · rw [if_pos c5] at H
        have c5b0 : (t110 == 0) = true := beq_iff_eq.mpr c5
        have c5b1 : (t110 != 0) = false := bne_eq_false_iff_eq.mpr c5
        clear c5
        (first | rw [c5b0] | (simp only [i64_w, i32_w]; rw [c5b0]) | skip)
        have H' := Aside0.mk H
        clear H
        go_wp2
        go_meet
        case rel => exact ⟨_, (true), (by first | rfl | (simp; done) | (simp [*]; done)), H', ⟨by first | omega | exact Nat.le_refl _⟩, by repeat (first | exact Drawn0.refl _ | apply Drawn0.step)⟩
      · rw [if_neg c5] at H
        have c5b0 : (t110 == 0) = false := beq_eq_false_iff_ne.mpr c5
        have c5b1 : (t110 != 0) = true := bne_iff_ne.mpr c5
        (first | rw [c5b0] | (simp only [i64_w, i32_w]; rw [c5b0]) | skip)
        by_cases c6 : t110 > 1000000
        · rw [if_pos c6] at H
          have c6b0 : decide (1000000 < t110) = true := decide_eq_true c6
          clear c6
          have H' := Aside0.mk H
          clear H
          go_wp2
          go_meet
          case rel => exact ⟨_, (true), (by first | rfl | (simp; done) | (simp [*]; done)), H', ⟨by first | omega | exact Nat.le_refl _⟩, by repeat (first | exact Drawn0.refl _ | apply Drawn0.step)⟩
        · rw [if_neg c6] at H
          have c6b0 : decide (1000000 < t110) = false := decide_eq_false c6
          clear c6
          have H' := Aside0.mk H
          clear H
          go_wp2
          go_meet
          case rel => exact ⟨_, (decide (t110 > (wrap64 ((a0.size : Int) - 8)))), (by first | rfl | (simp; done) | (simp [*]; done)), H', ⟨by first | omega | exact Nat.le_refl _⟩, by repeat (first | exact Drawn0.refl _ | apply Drawn0.step)⟩
    case rest =>
      clear HC4
      try clear c2
      try clear c2b0
      try clear c2b1
      try clear p2
      try clear c5
      try clear c5b0
      try clear c5b1
      try clear c6
      try clear c6b0
      try clear p6
      obtain ⟨kq, x23_3, rfl, HA, HJ3, ⟨mc3, rfl⟩⟩ := hcut
      cases kq with
      | zero => exact absurd HA.out (by simp [seglog_next.j0])
      | succ kj3 =>
        have H := HA.out
        clear HA
        simp only [seglog_next.j0] at H
        by_cases c7 : x23_3 = true
        · subst c7
          have H1 : (some ((⟨#[]⟩ : ByteArray), false)) = some (r1, r2) := by rw [if_pos rfl] at H; exact H
          clear H
          have H := H1
          clear H1
          simp only [Option.some.injEq, Prod.mk.injEq] at H
          obtain ⟨rfl, rfl⟩ := H
          go_wp2
          go_ret2
          exact ⟨by first | rfl | (simp; done) | (simp [*]; done), by repeat (first | exact Drawn0.refl _ | apply Drawn0.step)⟩
        · replace c7 := Bool.eq_false_iff.mpr c7
          subst c7
          have H1 : (if 8 ≤ (wrap64 (8 + t110)) then (if (wrap64 (8 + t110)) ≤ (a0.size : Int) then (if 4 ≤ (a0.size : Int) then ((seglog_number.f (a0.extract 4 a0.size)).bind fun t111 => ((bits_Crc.f kj3 (a0.extract 8 ((wrap64 (8 + t110)) : Int).toNat)).bind fun t112 => (some (a0.extract 8 ((wrap64 (8 + t110)) : Int).toNat, (t111 == t112))))) else (none)) else (none)) else (none)) = some (r1, r2) := by rw [if_neg (show ¬ (false = true) by decide)] at H; exact H
          clear H
          have H := H1
          clear H1
          by_cases c8 : 8 ≤ (wrap64 (8 + t110))
          · rw [if_pos c8] at H
            have c8b0 := eq_true c8
            have c8b1 : decide (8 ≤ (wrap64 (8 + t110))) = true := decide_eq_true c8
            by_cases c9 : (wrap64 (8 + t110)) ≤ (a0.size : Int)
            · rw [if_pos c9] at H
              have c9b0 := eq_true c9
              have c9b1 : decide ((wrap64 (8 + t110)) ≤ (a0.size : Int)) = true := decide_eq_true c9
              by_cases c10 : 4 ≤ (a0.size : Int)
              · rw [if_pos c10] at H
                have c10b0 := eq_true c10
                have c10b1 : decide (4 ≤ (a0.size : Int)) = true := decide_eq_true c10
                clear c10
                replace H := Option.bind_eq_some_iff.mp H
                obtain ⟨t111, A110, H⟩ := H
                replace H : ((bits_Crc.f kj3 (a0.extract 8 ((wrap64 (8 + t110)) : Int).toNat)).bind fun t112 => (some (a0.extract 8 ((wrap64 (8 + t110)) : Int).toNat, (t111 == t112)))) = some (r1, r2) := H
                have A11 := Aside0.mk A110
                clear A110
                replace H := Option.bind_eq_some_iff.mp H
                obtain ⟨t112, A120, H⟩ := H
                replace H : (some (a0.extract 8 ((wrap64 (8 + t110)) : Int).toNat, (t111 == t112))) = some (r1, r2) := H
                have A12 := Aside0.mk A120
                clear A120
                simp only [Option.some.injEq, Prod.mk.injEq] at H
                obtain ⟨rfl, rfl⟩ := H
                go_wp2_with (first | ((with_reducible refine gate_callee (f := 91) rfl ?_); refine goesL_ (some 31) rfl rfl Try.func91 (by kernel_rfl) rfl #[.string (a0.extract 4 a0.size)] rfl (by (try simp only [List.map_toArray, List.map_cons, List.map_nil]); first | done | rfl | (simp only [List.length_drop, List.length_take]; rfl)) ?_; (with_reducible refine (seglog_number.calls (a0.extract 4 a0.size) t111 _ A11.out).mono ?_); rintro e w' ⟨rfl, ⟨nd, rfl⟩⟩; refine ⟨_, rfl, ?_⟩) | ((with_reducible refine gate_callee (f := 82) rfl ?_); refine goesL_ (some 33) rfl rfl Try.func82 (by kernel_rfl) rfl #[.string (a0.extract 8 ((wrap64 (8 + t110)) : Int).toNat)] rfl (by (try simp only [List.map_toArray, List.map_cons, List.map_nil]); first | done | rfl | (simp only [List.length_drop, List.length_take]; rfl)) ?_; (with_reducible refine (bits_Crc.calls kj3 (a0.extract 8 ((wrap64 (8 + t110)) : Int).toNat) t112 _ A12.out).mono ?_); rintro e w' ⟨rfl, ⟨nd, rfl⟩⟩; refine ⟨_, rfl, ?_⟩))
                go_ret2
                exact ⟨by first | rfl | (simp; done) | (simp [*]; done), by repeat (first | exact Drawn0.refl _ | apply Drawn0.step)⟩
              · rw [if_neg c10] at H
                exact absurd H (by simp)
            · rw [if_neg c9] at H
              exact absurd H (by simp)
          · rw [if_neg c8] at H
            exact absurd H (by simp)

/-! ### seglog_found: function 78 -/
def seglog_found.l0 : Nat → ByteArray → List ByteArray → ByteArray → ByteArray → Bool → Option (List ByteArray × Int × Bool)
  | 0, _, _, _, _, _ => none
  | k + 1, x0, x5, x6, x7, x8 => if x8 = true then (if x5.length < 8796093022208 then (if 0 ≤ (wrap64 (8 + (x7.size : Int))) then (if (wrap64 (8 + (x7.size : Int))) ≤ (x6.size : Int) then ((seglog_next.f k (x6.extract ((wrap64 (8 + (x7.size : Int))) : Int).toNat x6.size)).bind fun bt118 => (seglog_found.l0 k x0 (x5 ++ [x7]) (x6.extract ((wrap64 (8 + (x7.size : Int))) : Int).toNat x6.size) bt118.1 bt118.2)) else (none)) else (none)) else (none)) else (if (x5.length : Int) = 0 then (some (([] : List ByteArray), 0, false)) else (if 0 < (x5.length : Int) then (if ((rdOf ByteArray.empty x5 0).size : Int) = 4 then ((seglog_number.f (rdOf ByteArray.empty x5 0)).bind fun t122 => (if t122 ≥ (x5.length : Int) then (some (([] : List ByteArray), 0, false)) else (if 1 ≤ (x5.length : Int) then (some ((x5.drop (1 : Int).toNat), wrap64 ((x0.size : Int) - (x6.size : Int)), true)) else (none)))) else (some (([] : List ByteArray), 0, false))) else (none)))
def seglog_found.f (k : Nat) (a0 : ByteArray) : Option (List ByteArray × Int × Bool) := (seglog_next.f k a0).bind fun bt113 => (seglog_found.l0 k a0 ([] : List ByteArray) a0 bt113.1 bt113.2)
theorem seglog_found.mono_l : ∀ k, (∀ y0 y1 y2 y3 y4, LeO (seglog_found.l0 k y0 y1 y2 y3 y4) (seglog_found.l0 (k + 1) y0 y1 y2 y3 y4))
  | 0 => fun _ _ _ _ _ r h => by simp [seglog_found.l0] at h
  | k + 1 => by
    have ih0 := seglog_found.mono_l k
    · intro y0 y1 y2 y3 y4
      unfold seglog_found.l0
      repeat' first
      | (with_reducible exact ih0 _ _ _ _ _)
      | (with_reducible exact seglog_next.mono _ _)
      | (with_reducible exact LeO.refl _)
      | (with_reducible exact LeO.none _)
      | (with_reducible refine LeO.ite ?_ ?_)
      | (with_reducible refine LeO.bind ?_ (fun _ => ?_))
      | exact ih0 _ _ _ _ _
      | exact seglog_next.mono _ _
      | exact LeO.none _
      | refine LeO.ite ?_ ?_
      | refine LeO.bind ?_ (fun _ => ?_)
theorem seglog_found.mono : ∀ a0 k, LeO (seglog_found.f k a0) (seglog_found.f (k + 1) a0) := by
  intro a0 k
  have ih0 := seglog_found.mono_l k
  unfold seglog_found.f
  repeat' first
      | (with_reducible exact ih0 _ _ _ _ _)
      | (with_reducible exact seglog_next.mono _ _)
      | (with_reducible exact LeO.refl _)
      | (with_reducible exact LeO.none _)
      | (with_reducible refine LeO.ite ?_ ?_)
      | (with_reducible refine LeO.bind ?_ (fun _ => ?_))
      | exact ih0 _ _ _ _ _
      | exact seglog_next.mono _ _
      | exact LeO.none _
      | refine LeO.ite ?_ ?_
      | refine LeO.bind ?_ (fun _ => ?_)
set_option maxHeartbeats 8000000 in
set_option maxRecDepth 100000 in
theorem seglog_found.calls (k : Nat) (a0 : ByteArray) (r1 : List ByteArray) (r2 : Int) (r3 : Bool) (w : World) (h : seglog_found.f k a0 = some (r1, r2, r3)) :
    Calls Try.prog 78 #[.string a0] w fun e w' => ∃ v0_ : Value, e = .returned (.tuple #[v0_, .int .i64 r2, .bool r3]) ∧ Kd.Q Kd.string 9 w' w.heap.size (fun _ => True) v0_ r1 ∧ Below w.heap.size w w' := by
  have HB := Aside0.mk (Below.refl w.heap.size w)
  have H : ((seglog_next.f k a0).bind fun bt113 => (seglog_found.l0 k a0 ([] : List ByteArray) a0 bt113.1 bt113.2)) = some (r1, r2, r3) := h
  clear h
  replace H := Option.bind_eq_some_iff.mp H
  obtain ⟨⟨t113, t114⟩, A20, H⟩ := H
  replace H : (seglog_found.l0 k a0 ([] : List ByteArray) a0 t113 t114) = some (r1, r2, r3) := H
  have A2 := Aside0.mk A20
  clear A20
  have H' := Aside0.mk H
  clear H
  go_enter Try.func78, Try.ntmps78
  go_wp2_with (first | ((with_reducible refine gate_callee (f := 90) rfl ?_); refine goesL_ (some 12) rfl rfl Try.func90 (by kernel_rfl) rfl #[.string a0] rfl (by (try simp only [List.map_toArray, List.map_cons, List.map_nil]); first | done | rfl | (simp only [List.length_drop, List.length_take]; rfl)) ?_; (with_reducible refine (seglog_next.calls k a0 t113 t114 _ A2.out).mono ?_); rintro e w' ⟨rfl, ⟨nd, rfl⟩⟩; refine ⟨_, rfl, ?_⟩))
  go_loopg [5, 6, 7, 8] k (fun kq v5 v6 v7 v8 w' => ∃ (x5_1 : List ByteArray) (x6_1 : ByteArray) (x7_1 : ByteArray) (x8_1 : Bool), v6 = .string x6_1 ∧ v7 = .string x7_1 ∧ v8 = .bool x8_1 ∧ Aside0 (seglog_found.l0 kq a0 x5_1 x6_1 x7_1 x8_1 = some (r1, r2, r3)) ∧ Aside0 (kq ≤ k) ∧ Aside0 (Kd.R Kd.string 9 w' w.heap.size (fun _ => True) v5 x5_1) ∧ Aside0 (Below w.heap.size w w'))
  case atStart => exact ⟨(([] : List ByteArray)), (a0), (t113), (t114), (by first | rfl | (simp; done) | (simp [*]; done)), (by first | rfl | (simp; done) | (simp [*]; done)), (by first | rfl | (simp; done) | (simp [*]; done)), H', ⟨Nat.le_refl _⟩, ⟨by first | exact Kd.R_nil _ _ _ _ _ | exact Kd.N_nil _ _ _ _ _ | exact Kd.V_nil _ _ _ _ _ | exact Kd.Q_nil _ _ _ _ _ | exact Kd.S_nil _ _ _ _ _⟩, ⟨by repeat (first | (with_reducible first | exact HB.out | apply below_alloc | apply pw_below_drewN | apply below_drew1) | exact HB.out)⟩⟩
  case round =>
    clear H'
    try clear p2
    obtain ⟨x5_1, x6_1, x7_1, x8_1, rfl, rfl, rfl, HA, HK1, HO_5, HB⟩ := hrel
    cases gk with
    | zero => exact absurd HA.out (by simp [seglog_found.l0])
    | succ k1 =>
      have H := HA.out
      clear HA
      simp only [seglog_found.l0] at H
      by_cases c3 : x8_1 = true
      · subst c3
        have H1 : (if x5_1.length < 8796093022208 then (if 0 ≤ (wrap64 (8 + (x7_1.size : Int))) then (if (wrap64 (8 + (x7_1.size : Int))) ≤ (x6_1.size : Int) then ((seglog_next.f k1 (x6_1.extract ((wrap64 (8 + (x7_1.size : Int))) : Int).toNat x6_1.size)).bind fun bt118 => (seglog_found.l0 k1 a0 (x5_1 ++ [x7_1]) (x6_1.extract ((wrap64 (8 + (x7_1.size : Int))) : Int).toNat x6_1.size) bt118.1 bt118.2)) else (none)) else (none)) else (none)) = some (r1, r2, r3) := by rw [if_pos rfl] at H; exact H
        clear H
        have H := H1
        clear H1
        by_cases c4 : x5_1.length < 8796093022208
        · rw [if_pos c4] at H
          have LMc4 := Aside0.mk c4
          clear c4
          obtain ⟨y115, hy115⟩ : ∃ y_ : List ByteArray, y_ = (x5_1 ++ [x7_1]) := ⟨_, rfl⟩
          replace H : (if 0 ≤ (wrap64 (8 + (x7_1.size : Int))) then (if (wrap64 (8 + (x7_1.size : Int))) ≤ (x6_1.size : Int) then ((seglog_next.f k1 (x6_1.extract ((wrap64 (8 + (x7_1.size : Int))) : Int).toNat x6_1.size)).bind fun bt118 => (seglog_found.l0 k1 a0 y115 (x6_1.extract ((wrap64 (8 + (x7_1.size : Int))) : Int).toNat x6_1.size) bt118.1 bt118.2)) else (none)) else (none)) = some (r1, r2, r3) := by first | (rw [hy115]; with_reducible exact H) | (have H2_ := (Option.bind_some _ _).symm.trans H; rw [hy115]; with_reducible exact H2_) | (have H2_ := (Option.bind_some _ _).symm.trans H; with_reducible exact H2_) | with_reducible exact H | (rw [hy115]; exact H) | exact H
          have Ny115 := Aside0.mk hy115
          clear hy115
          obtain ⟨ji5, hji5⟩ : ∃ j_ : Int, (wrap64 (8 + (x7_1.size : Int))) = j_ := ⟨_, rfl⟩
          replace H : (if 0 ≤ (ji5) then (if (ji5) ≤ (x6_1.size : Int) then ((seglog_next.f k1 (x6_1.extract ((ji5) : Int).toNat x6_1.size)).bind fun bt118 => (seglog_found.l0 k1 a0 y115 (x6_1.extract ((ji5) : Int).toNat x6_1.size) bt118.1 bt118.2)) else (none)) else (none)) = some (r1, r2, r3) := by first | (rw [hji5] at H; exact H) | (simp only [hji5] at H ⊢; exact H)
          have hji5w : (IntKind.i64.wrap (8 + (x7_1.size : Int))) = ji5 := (i64_w _).trans hji5
          by_cases c6 : 0 ≤ (ji5)
          · rw [if_pos c6] at H
            have c6b0 := eq_true c6
            have c6b1 : decide (0 ≤ (ji5)) = true := decide_eq_true c6
            clear c6
            by_cases c7 : (ji5) ≤ (x6_1.size : Int)
            · rw [if_pos c7] at H
              have c7b0 := eq_true c7
              have c7b1 : decide ((ji5) ≤ (x6_1.size : Int)) = true := decide_eq_true c7
              clear c7
              replace H := Option.bind_eq_some_iff.mp H
              obtain ⟨⟨t118, t119⟩, A80, H⟩ := H
              replace H : (seglog_found.l0 k1 a0 y115 (x6_1.extract ((ji5) : Int).toNat x6_1.size) t118 t119) = some (r1, r2, r3) := H
              have A8 := Aside0.mk A80
              clear A80
              have H' := Aside0.mk H
              clear H
              go_wp2_with (first | ((with_reducible refine gate_builtin (b := .append) (xs := #[.tmp 21, .tmp 23]) rfl ?_); (try (refine gate_guard (by rfl) ?_; dsimp only)); at_builtin; refine Kd.R_append Kd.string (w0 := w) w.heap.size rfl (.tmp 21) (.tmp 23) 22 9 (.string ⟨#[]⟩) 16 rfl Try.underlying22 info9 rfl (by decide) (by omega) u5 x5_1 x7_1 [.string x7_1] (fun _ => True) (fun _ => False) rfl rfl ?aP (fun _ hk => hk.elim) ?aF ?aO ?aB ?aS ?aL ?_; (case aP => exact rfl); (case aB => exact (by repeat (first | (with_reducible first | exact HB.out | apply below_alloc | apply pw_below_drewN | apply below_drew1) | exact HB.out))); (case aF => exact (fun _ _ => trivial)); (case aO => exact (by (with_reducible repeat (first | apply Kd.R_alloc | apply Kd.R_drewN | apply Kd.R_drew)); exact HO_5.out)); (case aS => exact (below_size (by repeat (first | (with_reducible first | exact HB.out | apply below_alloc | apply pw_below_drewN | apply below_drew1) | exact HB.out)))); (case aL => have := LMc4.out; omega); intro v116 w9 ho hb hg hat; rw [← Ny115.out] at ho; have n0_ := Aside0.mk (hb); have n1_ := Aside0.mk (ho); clear HB; clear HO_5; have HB := n0_; have HO117 := n1_; clear n0_ n1_; clear ho hb hg hat) | ((with_reducible refine gate_callee (f := 90) rfl ?_); refine goesL_ (some 18) rfl rfl Try.func90 (by kernel_rfl) rfl #[.string (x6_1.extract ((ji5) : Int).toNat x6_1.size)] rfl (by (try simp only [List.map_toArray, List.map_cons, List.map_nil]); first | done | (simp only [hji5]; rfl) | rfl | (simp only [List.length_drop, List.length_take]; rfl)) ?_; (with_reducible refine (seglog_next.calls k1 (x6_1.extract ((ji5) : Int).toNat x6_1.size) t118 t119 _ A8.out).mono ?_); rintro e w' ⟨rfl, ⟨nd, rfl⟩⟩; refine ⟨_, rfl, ?_⟩))
              go_roundg k1
              case measure => have := HK1.out; omega
              case rel => exact ⟨(y115), (x6_1.extract ((ji5) : Int).toNat x6_1.size), (t118), (t119), (by first | rfl | (simp; done) | (simp only [← hji5] <;> (first | rfl | simp)) | (simp [*]; done)), (by first | rfl | (simp; done) | (simp [*]; done)), (by first | rfl | (simp; done) | (simp [*]; done)), H', ⟨by have := HK1.out; omega⟩, ⟨by (with_reducible repeat (first | apply Kd.R_alloc | apply Kd.R_drewN | apply Kd.R_drew)); exact HO117.out⟩, ⟨by repeat (first | (with_reducible first | exact HB.out | apply below_alloc | apply pw_below_drewN | apply below_drew1) | exact HB.out)⟩⟩
            · rw [if_neg c7] at H
              exact absurd H (by simp)
          · rw [if_neg c6] at H
            exact absurd H (by simp)
        · rw [if_neg c4] at H
          exact absurd H (by simp)
      · replace c3 := Bool.eq_false_iff.mpr c3
        subst c3
        have H1 : (if (x5_1.length : Int) = 0 then (some (([] : List ByteArray), 0, false)) else (if 0 < (x5_1.length : Int) then (if ((rdOf ByteArray.empty x5_1 0).size : Int) = 4 then ((seglog_number.f (rdOf ByteArray.empty x5_1 0)).bind fun t122 => (if t122 ≥ (x5_1.length : Int) then (some (([] : List ByteArray), 0, false)) else (if 1 ≤ (x5_1.length : Int) then (some ((x5_1.drop (1 : Int).toNat), wrap64 ((a0.size : Int) - (x6_1.size : Int)), true)) else (none)))) else (some (([] : List ByteArray), 0, false))) else (none))) = some (r1, r2, r3) := by rw [if_neg (show ¬ (false = true) by decide)] at H; exact H
        clear H
        have H := H1
        clear H1
        by_cases c10 : (x5_1.length : Int) = 0
        · rw [if_pos c10] at H
          have c10b0 : ((x5_1.length : Int) == 0) = true := beq_iff_eq.mpr c10
          have c10b1 : ((x5_1.length : Int) != 0) = false := bne_eq_false_iff_eq.mpr c10
          clear c10
          simp only [Option.some.injEq, Prod.mk.injEq] at H
          obtain ⟨rfl, rfl, rfl⟩ := H
          obtain ⟨Ao11, co11, eo11⟩ := Kd.R_slice HO_5.out
          subst eo11
          go_wp2
          go_ret3
          exact ⟨_, by first | rfl | (simp [errW_none, errW_some] <;> rfl) | (simp [*, errW_none, errW_some] <;> rfl), Kd.Q_of_R (by first | exact Kd.R_nil _ _ _ _ _ | exact Kd.N_nil _ _ _ _ _ | exact Kd.V_nil _ _ _ _ _ | exact Kd.Q_nil _ _ _ _ _ | exact Kd.S_nil _ _ _ _ _), by repeat (first | (with_reducible first | exact HB.out | apply below_alloc | apply pw_below_drewN | apply below_drew1) | exact HB.out)⟩
        · rw [if_neg c10] at H
          have c10b0 : ((x5_1.length : Int) == 0) = false := beq_eq_false_iff_ne.mpr c10
          have c10b1 : ((x5_1.length : Int) != 0) = true := bne_iff_ne.mpr c10
          have c10b2 : ¬ (x5_1 = []) := fun h_ => c10 (by rw [h_]; rfl)
          by_cases c12 : 0 < (x5_1.length : Int)
          · rw [if_pos c12] at H
            have c12b0 : decide (0 < (x5_1.length : Int)) = true := decide_eq_true c12
            have c12b1 : decide (0 < x5_1.length) = true := decide_eq_true (by omega)
            clear c12
            by_cases c13 : ((rdOf ByteArray.empty x5_1 0).size : Int) = 4
            · rw [if_pos c13] at H
              have c13b0 : (((rdOf ByteArray.empty x5_1 0).size : Int) == 4) = true := beq_iff_eq.mpr c13
              have c13b1 : (((rdOf ByteArray.empty x5_1 0).size : Int) != 4) = false := bne_eq_false_iff_eq.mpr c13
              clear c13
              replace H := Option.bind_eq_some_iff.mp H
              obtain ⟨t122, A140, H⟩ := H
              replace H : (if t122 ≥ (x5_1.length : Int) then (some (([] : List ByteArray), 0, false)) else (if 1 ≤ (x5_1.length : Int) then (some ((x5_1.drop (1 : Int).toNat), wrap64 ((a0.size : Int) - (x6_1.size : Int)), true)) else (none))) = some (r1, r2, r3) := H
              have A14 := Aside0.mk A140
              clear A140
              by_cases c15 : t122 ≥ (x5_1.length : Int)
              · rw [if_pos c15] at H
                have c15b0 : decide ((x5_1.length : Int) ≤ t122) = true := decide_eq_true c15
                clear c15
                simp only [Option.some.injEq, Prod.mk.injEq] at H
                obtain ⟨rfl, rfl, rfl⟩ := H
                obtain ⟨Ao16, co16, eo16⟩ := Kd.R_slice HO_5.out
                subst eo16
                have p120 : 0 ≤ (0 : Int) := (by omega)
                have q120 : 0 < (x5_1.length : Int) := of_decide_eq_true (by first | (with_reducible assumption) | assumption)
                obtain ⟨ad120, e120, hx120_0⟩ := Kd.at_string (Kd.R_reads' HO_5.out).2.2 0 p120 q120
                cases e120
                have qi120 : (0 < x5_1.length) = True := eq_true (by omega)
                (try rw [show ((0 : Int)).toNat = 0 from rfl] at hx120_0)
                (try rw [Addr.add_zero'] at hx120_0)
                replace p120 := eq_true p120
                replace q120 := eq_true q120
                have p121 : 0 ≤ (0 : Int) := (by omega)
                have q121 : 0 < (x5_1.length : Int) := of_decide_eq_true (by first | (with_reducible assumption) | assumption)
                obtain ⟨ad121, e121, hx121_0⟩ := Kd.at_string (Kd.R_reads' HO_5.out).2.2 0 p121 q121
                obtain rfl : ad120 = ad121 := (by injection e121)
                have qi121 : (0 < x5_1.length) = True := eq_true (by omega)
                (try rw [show ((0 : Int)).toNat = 0 from rfl] at hx121_0)
                (try rw [Addr.add_zero'] at hx121_0)
                replace p121 := eq_true p121
                replace q121 := eq_true q121
                go_wp2_with (first | (go_at_call 91; (with_reducible refine (seglog_number.calls (rdOf ByteArray.empty x5_1 0) t122 _ A14.out).mono ?_); rintro e w' ⟨rfl, ⟨nd, rfl⟩⟩))
                go_ret3
                exact ⟨_, by first | rfl | (simp [errW_none, errW_some] <;> rfl) | (simp [*, errW_none, errW_some] <;> rfl), Kd.Q_of_R (by first | exact Kd.R_nil _ _ _ _ _ | exact Kd.N_nil _ _ _ _ _ | exact Kd.V_nil _ _ _ _ _ | exact Kd.Q_nil _ _ _ _ _ | exact Kd.S_nil _ _ _ _ _), by repeat (first | (with_reducible first | exact HB.out | apply below_alloc | apply pw_below_drewN | apply below_drew1) | exact HB.out)⟩
              · rw [if_neg c15] at H
                have c15b0 : decide ((x5_1.length : Int) ≤ t122) = false := decide_eq_false c15
                clear c15
                by_cases c17 : 1 ≤ (x5_1.length : Int)
                · rw [if_pos c17] at H
                  have c17b0 := eq_true c17
                  have c17b1 : decide (1 ≤ (x5_1.length : Int)) = true := decide_eq_true c17
                  clear c17
                  obtain ⟨y123, hy123⟩ : ∃ y_ : List ByteArray, y_ = (x5_1.drop (1 : Int).toNat) := ⟨_, rfl⟩
                  replace H : (some (y123, wrap64 ((a0.size : Int) - (x6_1.size : Int)), true)) = some (r1, r2, r3) := by first | (rw [hy123]; with_reducible exact H) | (have H2_ := (Option.bind_some _ _).symm.trans H; rw [hy123]; with_reducible exact H2_) | (have H2_ := (Option.bind_some _ _).symm.trans H; with_reducible exact H2_) | with_reducible exact H | (rw [hy123]; exact H) | exact H
                  have Ny123 := Aside0.mk hy123
                  clear hy123
                  simp only [Option.some.injEq, Prod.mk.injEq] at H
                  obtain ⟨rfl, rfl, rfl⟩ := H
                  obtain ⟨Ao18, co18, eo18⟩ := Kd.R_slice HO_5.out
                  subst eo18
                  have p120 : 0 ≤ (0 : Int) := (by omega)
                  have q120 : 0 < (x5_1.length : Int) := of_decide_eq_true (by first | (with_reducible assumption) | assumption)
                  obtain ⟨ad120, e120, hx120_0⟩ := Kd.at_string (Kd.R_reads' HO_5.out).2.2 0 p120 q120
                  cases e120
                  have qi120 : (0 < x5_1.length) = True := eq_true (by omega)
                  (try rw [show ((0 : Int)).toNat = 0 from rfl] at hx120_0)
                  (try rw [Addr.add_zero'] at hx120_0)
                  replace p120 := eq_true p120
                  replace q120 := eq_true q120
                  have p121 : 0 ≤ (0 : Int) := (by omega)
                  have q121 : 0 < (x5_1.length : Int) := of_decide_eq_true (by first | (with_reducible assumption) | assumption)
                  obtain ⟨ad121, e121, hx121_0⟩ := Kd.at_string (Kd.R_reads' HO_5.out).2.2 0 p121 q121
                  obtain rfl : ad120 = ad121 := (by injection e121)
                  have qi121 : (0 < x5_1.length) = True := eq_true (by omega)
                  (try rw [show ((0 : Int)).toNat = 0 from rfl] at hx121_0)
                  (try rw [Addr.add_zero'] at hx121_0)
                  replace p121 := eq_true p121
                  replace q121 := eq_true q121
                  go_wp2_with (first | (go_at_call 91; (with_reducible refine (seglog_number.calls (rdOf ByteArray.empty x5_1 0) t122 _ A14.out).mono ?_); rintro e w' ⟨rfl, ⟨nd, rfl⟩⟩; have q19 : (1 : Int) ≤ ((x5_1.length : Int) : Int) := of_decide_eq_true (by first | (with_reducible assumption) | assumption); obtain ⟨i019, hi019, _, hsz19, _⟩ := info_parts info9; have hcut19 := cut_from (P := Try.prog) 22 9 .i64 Try.underlying22 hi019 1 hsz19 (some ad120) x5_1.length co18 1 (by omega) q19; have hr19 := Kd.Q_drop (k := (1 : Int).toNat) (Kd.Q_of_R HO_5.out) (by omega); obtain ⟨A19, hA19⟩ : ∃ A1, A1 = (if co18 = (1 : Int).toNat then (some ad120) else ((some ad120) : Option Addr).map (·.add ((1 : Int).toNat * 1))) := ⟨_, rfl⟩; obtain ⟨c19, hc19⟩ : ∃ c1, c1 = co18 - (1 : Int).toNat := ⟨_, rfl⟩; have hy19 : y123.length = x5_1.length - (1 : Int).toNat := (by rw [Ny123.out, List.length_drop]); rw [← Ny123.out] at hr19; rw [← hy19, ← hA19, ← hc19] at hcut19; replace hr19 : Kd.Q Kd.string 9 wr w.heap.size (fun _ => True) (.slice A19 y123.length c19) y123 := (by rw [hA19, hc19, hy19]; exact hr19); have HE19 : Aside0 ((Value.slice A19 y123.length c19).ownBlock = (.slice (some ad120) x5_1.length co18 : Value).ownBlock) := ⟨by rw [hA19]; split <;> (cases ((some ad120) : Option Addr) <;> rfl)⟩; clear hy19 hi019 hsz19 HO_5 hA19 hc19; have HO125 := Aside0.mk hr19; clear hr19; replace q19 := eq_true q19))
                  go_ret3
                  exact ⟨_, by first | rfl | (simp [errW_none, errW_some] <;> rfl) | (simp [*, errW_none, errW_some] <;> rfl), by (with_reducible repeat (first | apply Kd.Q_alloc | apply Kd.Q_drewN | apply Kd.Q_drew)); exact HO125.out, by repeat (first | (with_reducible first | exact HB.out | apply below_alloc | apply pw_below_drewN | apply below_drew1) | exact HB.out)⟩
                · rw [if_neg c17] at H
                  exact absurd H (by simp)
            · rw [if_neg c13] at H
              have c13b0 : (((rdOf ByteArray.empty x5_1 0).size : Int) == 4) = false := beq_eq_false_iff_ne.mpr c13
              have c13b1 : (((rdOf ByteArray.empty x5_1 0).size : Int) != 4) = true := bne_iff_ne.mpr c13
              simp only [Option.some.injEq, Prod.mk.injEq] at H
              obtain ⟨rfl, rfl, rfl⟩ := H
              obtain ⟨Ao20, co20, eo20⟩ := Kd.R_slice HO_5.out
              subst eo20
              have p120 : 0 ≤ (0 : Int) := (by omega)
              have q120 : 0 < (x5_1.length : Int) := of_decide_eq_true (by first | (with_reducible assumption) | assumption)
              obtain ⟨ad120, e120, hx120_0⟩ := Kd.at_string (Kd.R_reads' HO_5.out).2.2 0 p120 q120
              cases e120
              have qi120 : (0 < x5_1.length) = True := eq_true (by omega)
              (try rw [show ((0 : Int)).toNat = 0 from rfl] at hx120_0)
              (try rw [Addr.add_zero'] at hx120_0)
              replace p120 := eq_true p120
              replace q120 := eq_true q120
              go_wp2
              go_ret3
              exact ⟨_, by first | rfl | (simp [errW_none, errW_some] <;> rfl) | (simp [*, errW_none, errW_some] <;> rfl), Kd.Q_of_R (by first | exact Kd.R_nil _ _ _ _ _ | exact Kd.N_nil _ _ _ _ _ | exact Kd.V_nil _ _ _ _ _ | exact Kd.Q_nil _ _ _ _ _ | exact Kd.S_nil _ _ _ _ _), by repeat (first | (with_reducible first | exact HB.out | apply below_alloc | apply pw_below_drewN | apply below_drew1) | exact HB.out)⟩
          · rw [if_neg c12] at H
            exact absurd H (by simp)

/-! ### seglog_big: function 66 -/
def seglog_big.f (a0 : Int) : Option (ByteArray) := some (strOfNums (([(a0 / 16777216) % 256, (a0 / 65536) % 256, (a0 / 256) % 256, (a0) % 256] : List Int)))
set_option maxHeartbeats 8000000 in
set_option maxRecDepth 100000 in
theorem seglog_big.calls (a0 : Int) (r : ByteArray) (w : World) (h : seglog_big.f a0 = some r) :
    Calls Try.prog 66 #[.int .i64 a0] w fun e w' => e = .returned (.string r) ∧ Below w.heap.size w w' := by
  have HB := Aside0.mk (Below.refl w.heap.size w)
  have H : (some (strOfNums (([(a0 / 16777216) % 256, (a0 / 65536) % 256, (a0 / 256) % 256, (a0) % 256] : List Int)))) = some r := h
  clear h
  obtain ⟨y126, hy126⟩ : ∃ y_ : List Int, y_ = (([(a0 / 16777216) % 256, (a0 / 65536) % 256, (a0 / 256) % 256, (a0) % 256] : List Int)) := ⟨_, rfl⟩
  replace H : (some (strOfNums y126)) = some r := by first | (rw [hy126]; with_reducible exact H) | (have H2_ := (Option.bind_some _ _).symm.trans H; rw [hy126]; with_reducible exact H2_) | (have H2_ := (Option.bind_some _ _).symm.trans H; with_reducible exact H2_) | with_reducible exact H | (rw [hy126]; exact H) | exact H
  have Ny126 := Aside0.mk hy126
  clear hy126
  obtain rfl := Option.some.inj H
  go_enter Try.func66, Try.ntmps66
  go_wp2_with (first | ((with_reducible refine gate_dst (N := 14) rfl ?_); refine Kd.R_lit (Kd.int .u8) _ 5 ?hg (N := 14) ?hd (xs := ([(a0 / 16777216) % 256, (a0 / 65536) % 256, (a0 / 256) % 256, (a0) % 256] : List Int)) (inner := [.int .u8 ((a0 / 16777216) % 256), .int .u8 ((a0 / 65536) % 256), .int .u8 ((a0 / 256) % 256), .int .u8 ((a0) % 256)]) (ok := fun _ => True) (okp := fun _ => True) ?hr ?hp (fun _ hk => hk) trivial (Below.refl _ _) (Nat.le_refl _) (by simp) ?_; (case hd => rfl); (case hg => rfl); (case hr => first | (go_simp; done) | (go_simp; rfl)); (case hp => exact (Reps.one (show Kd.M (Kd.int .u8) _ _ _ ((a0 / 16777216) % 256) [.int .u8 ((a0 / 16777216) % 256)] from rfl) (Reps.one (show Kd.M (Kd.int .u8) _ _ _ ((a0 / 65536) % 256) [.int .u8 ((a0 / 65536) % 256)] from rfl) (Reps.one (show Kd.M (Kd.int .u8) _ _ _ ((a0 / 256) % 256) [.int .u8 ((a0 / 256) % 256)] from rfl) (Reps.one (show Kd.M (Kd.int .u8) _ _ _ ((a0) % 256) [.int .u8 ((a0) % 256)] from rfl) (Reps.none _ _)))))); intro v127 w2 ho3 hb hg_ hnew_; clear hg_ hnew_; (first | rw [← Ny126.out] at ho3 | (simp only [Int.reduceToNat] at ho3; rw [← Ny126.out] at ho3)); have n0_ := Aside0.mk (Kd.R_lower ho3 (below_size (by repeat (first | (with_reducible first | exact HB.out | apply below_alloc | apply pw_below_drewN | apply below_drew1) | exact HB.out)))); have n1_ := Aside0.mk (below_step (by repeat (first | (with_reducible first | exact HB.out | apply below_alloc | apply pw_below_drewN | apply below_drew1) | exact HB.out)) hb); clear HB; have HO128 := n0_; have HB := n1_; clear n0_ n1_; clear hb ho3; have hcv4 := own_string (P := Try.prog) Try.underlying83 Try.underlying5 Try.underlying9 (Kd.own_of_R HO128.out)))
  go_ret
  exact ⟨by first | rfl | (simp [errW_none, errW_some] <;> rfl) | (simp [*, errW_none, errW_some] <;> rfl), by repeat (first | (with_reducible first | exact HB.out | apply below_alloc | apply pw_below_drewN | apply below_drew1) | exact HB.out)⟩

/-! ### vitrineref06_Of: function 85 -/
def vitrineref06_Of.l0 : Nat → ByteArray → Int → Int → Option (Int)
  | 0, _, _, _ => none
  | k + 1, x0, x3, x4 => if x4 < (x0.size : Int) then (if 0 ≤ x4 then (vitrineref06_Of.l0 k x0 (wrap64 ((wrap64 (256 * x3)) + (wrap64 (bt x0 x4)))) (wrap64 (x4 + 1))) else (none)) else (some x3)
def vitrineref06_Of.f (k : Nat) (a0 : ByteArray) : Option (Int) := vitrineref06_Of.l0 k a0 0 0
theorem vitrineref06_Of.mono_l : ∀ k, (∀ y0 y1 y2, LeO (vitrineref06_Of.l0 k y0 y1 y2) (vitrineref06_Of.l0 (k + 1) y0 y1 y2))
  | 0 => fun _ _ _ r h => by simp [vitrineref06_Of.l0] at h
  | k + 1 => by
    have ih0 := vitrineref06_Of.mono_l k
    · intro y0 y1 y2
      unfold vitrineref06_Of.l0
      repeat' first
      | (with_reducible exact ih0 _ _ _)
      | (with_reducible exact LeO.refl _)
      | (with_reducible exact LeO.none _)
      | (with_reducible refine LeO.ite ?_ ?_)
      | (with_reducible refine LeO.bind ?_ (fun _ => ?_))
      | exact ih0 _ _ _
      | exact LeO.none _
      | refine LeO.ite ?_ ?_
      | refine LeO.bind ?_ (fun _ => ?_)
theorem vitrineref06_Of.mono : ∀ a0 k, LeO (vitrineref06_Of.f k a0) (vitrineref06_Of.f (k + 1) a0) := by
  intro a0 k
  have ih0 := vitrineref06_Of.mono_l k
  unfold vitrineref06_Of.f
  repeat' first
      | (with_reducible exact ih0 _ _ _)
      | (with_reducible exact LeO.refl _)
      | (with_reducible exact LeO.none _)
      | (with_reducible refine LeO.ite ?_ ?_)
      | (with_reducible refine LeO.bind ?_ (fun _ => ?_))
      | exact ih0 _ _ _
      | exact LeO.none _
      | refine LeO.ite ?_ ?_
      | refine LeO.bind ?_ (fun _ => ?_)
set_option maxHeartbeats 8000000 in
set_option maxRecDepth 100000 in
theorem vitrineref06_Of.calls (k : Nat) (a0 : ByteArray) (r : Int) (w : World) (h : vitrineref06_Of.f k a0 = some r) :
    Calls Try.prog 85 #[.string a0] w fun e w' => e = .returned (.int .i64 r) ∧ Drawn0 w w' := by
  have H : (vitrineref06_Of.l0 k a0 0 0) = some r := h
  clear h
  have H' := Aside0.mk H
  clear H
  go_enter Try.func85, Try.ntmps85
  go_wp2
  go_loopg [3, 4] k (fun kq v3 v4 w' => ∃ (x3_1 : Int) (x4_1 : Int), v3 = .int .i64 x3_1 ∧ v4 = .int .i64 x4_1 ∧ Aside0 (vitrineref06_Of.l0 kq a0 x3_1 x4_1 = some r) ∧ Aside0 (kq ≤ k) ∧ Drawn0 w w')
  case atStart => exact ⟨(0), (0), (by first | rfl | (simp; done) | (simp [*]; done)), (by first | rfl | (simp; done) | (simp [*]; done)), H', ⟨Nat.le_refl _⟩, by repeat (first | exact Drawn0.refl _ | apply Drawn0.step)⟩
  case round =>
    clear H'
    obtain ⟨x3_1, x4_1, rfl, rfl, HA, HK1, ⟨m1, rfl⟩⟩ := hrel
    cases gk with
    | zero => exact absurd HA.out (by simp [vitrineref06_Of.l0])
    | succ k1 =>
      have H := HA.out
      clear HA
      simp only [vitrineref06_Of.l0] at H
      by_cases c2 : x4_1 < (a0.size : Int)
      · rw [if_pos c2] at H
        have c2b0 : decide (x4_1 < (a0.size : Int)) = true := decide_eq_true c2
        clear c2
        by_cases c3 : 0 ≤ x4_1
        · rw [if_pos c3] at H
          have c3b0 : decide (0 ≤ x4_1) = true := decide_eq_true c3
          clear c3
          have H' := Aside0.mk H
          clear H
          have p4 : 0 ≤ (x4_1 : Int) := of_decide_eq_true (by first | (with_reducible assumption) | assumption)
          have q4 : x4_1 < (a0.size : Int) := of_decide_eq_true (by first | (with_reducible assumption) | assumption)
          have hx4 := bt_at a0 x4_1
          replace p4 := eq_true p4
          replace q4 := eq_true q4
          go_wp2
          go_roundg k1
          case measure => have := HK1.out; omega
          case rel => exact ⟨(wrap64 ((wrap64 (256 * x3_1)) + (wrap64 (bt a0 x4_1)))), (wrap64 (x4_1 + 1)), (by first | rfl | (simp; done) | (simp [*]; done)), (by first | rfl | (simp; done) | (simp [*]; done)), H', ⟨by have := HK1.out; omega⟩, by repeat (first | exact Drawn0.refl _ | apply Drawn0.step)⟩
        · rw [if_neg c3] at H
          exact absurd H (by simp)
      · rw [if_neg c2] at H
        have c2b0 : decide (x4_1 < (a0.size : Int)) = false := decide_eq_false c2
        clear c2
        obtain rfl := Option.some.inj H
        go_wp2
        go_ret
        exact ⟨by first | rfl | (simp; done) | (simp [*]; done), by repeat (first | exact Drawn0.refl _ | apply Drawn0.step)⟩

/-! ### vitrineref01_Crc: function 86 -/
mutual
def vitrineref01_Crc.l0 : Nat → ByteArray → Int → Int → Option (Int)
  | 0, _, _, _ => none
  | k + 1, x0, x3, x4 => if x4 < (x0.size : Int) then (if 0 ≤ x4 then (vitrineref01_Crc.l1 k x0 (Go.bits .xor .i64 x3 (wrap64 (bt x0 x4))) x4 0) else (none)) else (some (Go.bits .xor .i64 x3 4294967295))
def vitrineref01_Crc.l1 : Nat → ByteArray → Int → Int → Int → Option (Int)
  | 0, _, _, _, _ => none
  | k + 1, x0, x3, x4, x5 => if x5 < 8 then (if (Int.tmod x3 2) = 1 then (vitrineref01_Crc.l1 k x0 (Go.bits .xor .i64 (wrap64 (Int.tdiv x3 2)) 3988292384) x4 (wrap64 (x5 + 1))) else (vitrineref01_Crc.l1 k x0 (wrap64 (Int.tdiv x3 2)) x4 (wrap64 (x5 + 1)))) else (vitrineref01_Crc.l0 k x0 x3 (wrap64 (x4 + 1)))
end
def vitrineref01_Crc.f (k : Nat) (a0 : ByteArray) : Option (Int) := vitrineref01_Crc.l0 k a0 4294967295 0
theorem vitrineref01_Crc.mono_l : ∀ k, (∀ y0 y1 y2, LeO (vitrineref01_Crc.l0 k y0 y1 y2) (vitrineref01_Crc.l0 (k + 1) y0 y1 y2)) ∧ (∀ y0 y1 y2 y3, LeO (vitrineref01_Crc.l1 k y0 y1 y2 y3) (vitrineref01_Crc.l1 (k + 1) y0 y1 y2 y3))
  | 0 => ⟨fun _ _ _ r h => by simp [vitrineref01_Crc.l0] at h, fun _ _ _ _ r h => by simp [vitrineref01_Crc.l1] at h⟩
  | k + 1 => by
    obtain ⟨ih0, ih1⟩ := vitrineref01_Crc.mono_l k
    refine ⟨?_, ?_⟩
    · intro y0 y1 y2
      unfold vitrineref01_Crc.l0
      repeat' first
      | (with_reducible exact ih0 _ _ _)
      | (with_reducible exact ih1 _ _ _ _)
      | (with_reducible exact LeO.refl _)
      | (with_reducible exact LeO.none _)
      | (with_reducible refine LeO.ite ?_ ?_)
      | (with_reducible refine LeO.bind ?_ (fun _ => ?_))
      | exact ih0 _ _ _
      | exact ih1 _ _ _ _
      | exact LeO.none _
      | refine LeO.ite ?_ ?_
      | refine LeO.bind ?_ (fun _ => ?_)
    · intro y0 y1 y2 y3
      unfold vitrineref01_Crc.l1
      repeat' first
      | (with_reducible exact ih0 _ _ _)
      | (with_reducible exact ih1 _ _ _ _)
      | (with_reducible exact LeO.refl _)
      | (with_reducible exact LeO.none _)
      | (with_reducible refine LeO.ite ?_ ?_)
      | (with_reducible refine LeO.bind ?_ (fun _ => ?_))
      | exact ih0 _ _ _
      | exact ih1 _ _ _ _
      | exact LeO.none _
      | refine LeO.ite ?_ ?_
      | refine LeO.bind ?_ (fun _ => ?_)
theorem vitrineref01_Crc.mono : ∀ a0 k, LeO (vitrineref01_Crc.f k a0) (vitrineref01_Crc.f (k + 1) a0) := by
  intro a0 k
  obtain ⟨ih0, ih1⟩ := vitrineref01_Crc.mono_l k
  unfold vitrineref01_Crc.f
  repeat' first
      | (with_reducible exact ih0 _ _ _)
      | (with_reducible exact ih1 _ _ _ _)
      | (with_reducible exact LeO.refl _)
      | (with_reducible exact LeO.none _)
      | (with_reducible refine LeO.ite ?_ ?_)
      | (with_reducible refine LeO.bind ?_ (fun _ => ?_))
      | exact ih0 _ _ _
      | exact ih1 _ _ _ _
      | exact LeO.none _
      | refine LeO.ite ?_ ?_
      | refine LeO.bind ?_ (fun _ => ?_)
set_option maxHeartbeats 8000000 in
set_option maxRecDepth 100000 in
theorem vitrineref01_Crc.calls (k : Nat) (a0 : ByteArray) (r : Int) (w : World) (h : vitrineref01_Crc.f k a0 = some r) :
    Calls Try.prog 86 #[.string a0] w fun e w' => e = .returned (.int .i64 r) ∧ Drawn0 w w' := by
  have H : (vitrineref01_Crc.l0 k a0 4294967295 0) = some r := h
  clear h
  have H' := Aside0.mk H
  clear H
  go_enter Try.func86, Try.ntmps86
  go_wp2
  go_loopg [3, 4] k (fun kq v3 v4 w' => ∃ (x3_1 : Int) (x4_1 : Int), v3 = .int .i64 x3_1 ∧ v4 = .int .i64 x4_1 ∧ Aside0 (vitrineref01_Crc.l0 kq a0 x3_1 x4_1 = some r) ∧ Aside0 (kq ≤ k) ∧ Drawn0 w w')
  case atStart => exact ⟨(4294967295), (0), (by first | rfl | (simp; done) | (simp [*]; done)), (by first | rfl | (simp; done) | (simp [*]; done)), H', ⟨Nat.le_refl _⟩, by repeat (first | exact Drawn0.refl _ | apply Drawn0.step)⟩
  case round =>
    clear H'
    obtain ⟨x3_1, x4_1, rfl, rfl, HA, HK1, ⟨m1, rfl⟩⟩ := hrel
    cases gk with
    | zero => exact absurd HA.out (by simp [vitrineref01_Crc.l0])
    | succ k1 =>
      have H := HA.out
      clear HA
      simp only [vitrineref01_Crc.l0] at H
      by_cases c2 : x4_1 < (a0.size : Int)
      · rw [if_pos c2] at H
        have c2b0 : decide (x4_1 < (a0.size : Int)) = true := decide_eq_true c2
        clear c2
        by_cases c3 : 0 ≤ x4_1
        · rw [if_pos c3] at H
          have c3b0 : decide (0 ≤ x4_1) = true := decide_eq_true c3
          clear c3
          have H' := Aside0.mk H
          clear H
          have p4 : 0 ≤ (x4_1 : Int) := of_decide_eq_true (by first | (with_reducible assumption) | assumption)
          have q4 : x4_1 < (a0.size : Int) := of_decide_eq_true (by first | (with_reducible assumption) | assumption)
          have hx4 := bt_at a0 x4_1
          replace p4 := eq_true p4
          replace q4 := eq_true q4
          go_wp2
          go_loopg [3, 5] k1 (fun kq v3 v5 w' => ∃ (x3_2 : Int) (x5_2 : Int), v3 = .int .i64 x3_2 ∧ v5 = .int .i64 x5_2 ∧ Aside0 (vitrineref01_Crc.l1 kq a0 x3_2 x4_1 x5_2 = some r) ∧ Aside0 (kq ≤ k1) ∧ Drawn0 w w')
          case atStart => exact ⟨(Go.bits .xor .i64 x3_1 (wrap64 (bt a0 x4_1))), (0), (by first | rfl | (simp; done) | (simp [*]; done)), (by first | rfl | (simp; done) | (simp [*]; done)), H', ⟨Nat.le_refl _⟩, by repeat (first | exact Drawn0.refl _ | apply Drawn0.step)⟩
          case round =>
            clear H'
            try clear c2
            try clear c2b0
            try clear p2
            try clear c3
            try clear c3b0
            try clear p4
            try clear q4
            try clear hx4
            try clear p4
            try clear q4
            obtain ⟨x3_2, x5_2, rfl, rfl, HA, HK2, ⟨m2, rfl⟩⟩ := hrel
            cases gk with
            | zero => exact absurd HA.out (by simp [vitrineref01_Crc.l1])
            | succ k2 =>
              have H := HA.out
              clear HA
              simp only [vitrineref01_Crc.l1] at H
              by_cases c5 : x5_2 < 8
              · rw [if_pos c5] at H
                have c5b0 : decide (x5_2 < 8) = true := decide_eq_true c5
                clear c5
                by_cases c6 : (Int.tmod x3_2 2) = 1
                · rw [if_pos c6] at H
                  have c6b0 : ((Int.tmod x3_2 2) == 1) = true := beq_iff_eq.mpr c6
                  have c6b1 : ((Int.tmod x3_2 2) != 1) = false := bne_eq_false_iff_eq.mpr c6
                  clear c6
                  have H' := Aside0.mk H
                  clear H
                  go_wp2
                  go_roundg k2
                  case measure => have := HK1.out; have := HK2.out; omega
                  case rel => exact ⟨(Go.bits .xor .i64 (wrap64 (Int.tdiv x3_2 2)) 3988292384), (wrap64 (x5_2 + 1)), (by first | rfl | (simp; done) | (simp [*]; done)), (by first | rfl | (simp; done) | (simp [*]; done)), H', ⟨by have := HK1.out; have := HK2.out; omega⟩, by repeat (first | exact Drawn0.refl _ | apply Drawn0.step)⟩
                · rw [if_neg c6] at H
                  have c6b0 : ((Int.tmod x3_2 2) == 1) = false := beq_eq_false_iff_ne.mpr c6
                  have c6b1 : ((Int.tmod x3_2 2) != 1) = true := bne_iff_ne.mpr c6
                  have H' := Aside0.mk H
                  clear H
                  go_wp2
                  go_roundg k2
                  case measure => have := HK1.out; have := HK2.out; omega
                  case rel => exact ⟨(wrap64 (Int.tdiv x3_2 2)), (wrap64 (x5_2 + 1)), (by first | rfl | (simp; done) | (simp [*]; done)), (by first | rfl | (simp; done) | (simp [*]; done)), H', ⟨by have := HK1.out; have := HK2.out; omega⟩, by repeat (first | exact Drawn0.refl _ | apply Drawn0.step)⟩
              · rw [if_neg c5] at H
                have c5b0 : decide (x5_2 < 8) = false := decide_eq_false c5
                clear c5
                have H' := Aside0.mk H
                clear H
                go_wp2
                go_roundg k2
                case measure => have := HK1.out; have := HK2.out; omega
                case rel => exact ⟨(x3_2), (wrap64 (x4_1 + 1)), (by first | rfl | (simp; done) | (simp [*]; done)), (by first | rfl | (simp; done) | (simp [*]; done)), H', ⟨by have := HK1.out; have := HK2.out; omega⟩, by repeat (first | exact Drawn0.refl _ | apply Drawn0.step)⟩
        · rw [if_neg c3] at H
          exact absurd H (by simp)
      · rw [if_neg c2] at H
        have c2b0 : decide (x4_1 < (a0.size : Int)) = false := decide_eq_false c2
        clear c2
        obtain rfl := Option.some.inj H
        go_wp2
        go_ret
        exact ⟨by first | rfl | (simp; done) | (simp [*]; done), by repeat (first | exact Drawn0.refl _ | apply Drawn0.step)⟩

end Go.Proofs.Ytljfagagopaidaa.Lf
