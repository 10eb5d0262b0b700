/- DiskDies: for every step at which it is armed and every number of steps the law's function returns true. -/
import Derived.Test.YtljfagagopaidaaDw
import Derived.Test.YtljfagagopaidaaWMore
namespace Go.Proofs.Ytljfagagopaidaa
open Go.RowKit Go.Proofs.YtljfagagopaidaaW.PrintWords Go.Proofs.YtljfagagopaidaaW.PrintMore
set_option linter.unusedSimpArgs false
set_option linter.unusedVariables false
set_option maxRecDepth 100000

/-- The disk armed at 'at_', after j steps. -/
def dyk (a : Int) (j : Nat) (st : Int) : Dk := ⟨[], 1000, if a < 1 then 0 else if (j : Int) < a then a - j else 0, decide (1 ≤ a ∧ a ≤ j), st⟩

theorem dyk_start (a : Int) : (Dk.new 1000).arm a = dyk a 0 0 := by
  unfold Dk.arm dyk Dk.new
  by_cases h : 0 ≤ a
  · by_cases h1 : a < 1
    · have : a = 0 := by omega
      subst this
      rfl
    · have h3 : ¬ (1 ≤ a ∧ a ≤ ((0 : Nat) : Int)) := by omega
      rw [if_pos h, if_neg h1, if_pos (by omega)]
      simp only [h3, decide_false]
      simp
  · have h3 : ¬ (1 ≤ a ∧ a ≤ ((0 : Nat) : Int)) := by omega
    rw [if_neg h, if_pos (by omega)]
    simp only [h3, decide_false]

theorem sync_dead {d : Dk} (h : d.dead = true) (f : Int) : d.sync f = d ∧ d.changeE f = 50 := by
  have hw : d.wrong f = 50 := by unfold Dk.wrong; rw [h]; rfl
  have hn : d.wrong f ≠ 0 := by rw [hw]; decide
  unfold Dk.sync Dk.changeE
  rw [if_pos hn, if_pos hn]
  exact ⟨rfl, hw⟩

theorem sync_live {d : Dk} (h : d.dead = false) (hf : d.files = []) {f : Int} (h0 : 0 ≤ f) (h1 : f < 65536) : d.sync f = d.step ∧ d.changeE f = d.stepE := by
  have hw : d.wrong f = 0 := by unfold Dk.wrong; rw [h]; simp; omega
  have hn : ¬ (d.wrong f ≠ 0) := by rw [hw]; decide
  unfold Dk.sync Dk.changeE Dk.changed
  rw [if_neg hn, if_neg hn, hf]
  refine ⟨?_, rfl⟩
  split
  · rfl
  · rfl

theorem dyk_sync (a : Int) (j : Nat) (st : Int) (hj : j < 200) : ∃ st', (dyk a j st).sync ((j : Int) + 1) = dyk a (j + 1) st' ∧ (dyk a j st).changeE ((j : Int) + 1) = if 1 ≤ a ∧ a ≤ (j : Int) + 1 then 50 else 0 := by
  by_cases h1 : 1 ≤ a ∧ a ≤ (j : Int)
  · have hd : (dyk a j st).dead = true := decide_eq_true h1
    obtain ⟨e1, e2⟩ := sync_dead hd ((j : Int) + 1)
    refine ⟨st, ?_, by rw [e2, if_pos (by omega)]⟩
    rw [e1]
    unfold dyk
    rw [if_neg (by omega), if_neg (by omega), if_neg (by omega), if_neg (by omega), decide_eq_true h1, decide_eq_true (by omega)]
  · have hd : (dyk a j st).dead = false := decide_eq_false h1
    obtain ⟨e1, e2⟩ := sync_live hd rfl (f := (j : Int) + 1) (by omega) (by omega)
    refine ⟨wrap64 (st + 1), ?_, ?_⟩
    · rw [e1]
      unfold Dk.step dyk
      by_cases h2 : a < 1
      · have h3 : ¬ (1 ≤ a ∧ a ≤ (j : Int)) := h1
        have h4 : ¬ (1 ≤ a ∧ a ≤ ((j + 1 : Nat) : Int)) := by omega
        simp only [h2, if_true, h3, h4, decide_false, Int.lt_irrefl, if_false]
      · have h5 : (j : Int) < a := by omega
        have h6 : (0 : Int) < a - j := by omega
        simp only [h2, if_false, h5, if_true, h6]
        by_cases h7 : a = (j : Int) + 1
        · subst h7
          have h8 : ¬ (((j + 1 : Nat) : Int) < (j : Int) + 1) := by omega
          have h9 : (1 : Int) ≤ (j : Int) + 1 ∧ (j : Int) + 1 ≤ ((j + 1 : Nat) : Int) := by omega
          have h10 : (j : Int) + 1 - j - 1 = 0 := by omega
          simp only [h8, if_false, h9, h10, decide_true, and_self]
          rfl
        · have h8 : ((j + 1 : Nat) : Int) < a := by omega
          have h9 : ¬ (1 ≤ a ∧ a ≤ ((j + 1 : Nat) : Int)) := by omega
          have h10 : (a - (j : Int) - 1 == 0) = false := by rw [beq_eq_false_iff_ne]; omega
          have h11 : a - (j : Int) - 1 = a - ((j + 1 : Nat) : Int) := by omega
          simp only [h8, if_true, h9, h10, decide_false]
          rw [h11]
    · rw [e2]
      unfold Dk.stepE Dk.step dyk
      by_cases h2 : a < 1
      · have h3 : ¬ (1 ≤ a ∧ a ≤ (j : Int) + 1) := by omega
        simp only [h2, if_true, Int.lt_irrefl, if_false, h1, decide_false, h3]
        rfl
      · have h5 : (j : Int) < a := by omega
        have h6 : (0 : Int) < a - j := by omega
        simp only [h2, if_false, h5, if_true, h6]
        by_cases h7 : a = (j : Int) + 1
        · have h10 : (a - (j : Int) - 1 == 0) = true := by rw [beq_iff_eq]; omega
          rw [h10]
          show (50 : Int) = _
          rw [if_pos (by omega)]
        · have h10 : (a - (j : Int) - 1 == 0) = false := by rw [beq_eq_false_iff_ne]; omega
          rw [h10]
          show (0 : Int) = _
          rw [if_neg (by omega)]

theorem dyk_ok (a : Int) (j : Nat) (st : Int) (ha : a ≤ 9223372036854775807) : (dyk a j st).Ok := by
  refine ⟨show (1000 : Int) ≤ 16777216 by decide, ?_, ?_, .inr rfl, show 0 ≤ 65536 by decide, by simp [dyk]⟩
  · show 0 ≤ (if a < 1 then 0 else if (j : Int) < a then a - j else 0)
    split
    · omega
    · split <;> omega
  · show (if a < 1 then 0 else if (j : Int) < a then a - j else 0) ≤ 9223372036854775807
    split
    · omega
    · split <;> omega

theorem dyk_crash (a : Int) (j : Nat) (st : Int) : (dyk a j st).crash [] = ⟨[], 1000, 0, false, st⟩ := by
  have : numbers (dyk a j st).files = [] := by simp [numbers, sortZ, dyk]
  unfold Dk.crash
  rw [this]
  rfl

theorem last_append (st : Int) : (⟨[], 1000, 0, false, st⟩ : Dk).appendE 0 sX = 0 := by
  have hw : (⟨[], 1000, 0, false, st⟩ : Dk).wrong 0 = 0 := rfl
  rw [(Dk.append_goes hw (s := sX) (show ((bytes [] : Nat) : Int) + (sX.size : Int) ≤ 1000 by decide)).1]
  rfl
theorem last_ok (st : Int) : (⟨[], 1000, 0, false, st⟩ : Dk).Ok := ⟨show (1000 : Int) ≤ 16777216 by decide, show (0 : Int) ≤ 0 by decide, show (0 : Int) ≤ 9223372036854775807 by decide, .inr rfl, show 0 ≤ 65536 by decide, by simp⟩

set_option maxHeartbeats 2000000 in
theorem dies_none (a many : Int) (ha : a ≤ 9223372036854775807) (c1 : many < 0) (w : World) : Calls Try.prog 4 #[.int .i64 a, .int .i64 many] w fun e w' => e = .returned (.bool true) ∧ Below w.heap.size w w' := by
    go_enter Try.func4, Try.ntmps4
    go_wp2_with fail
    refine (new_calls _ 1000 (by decide) (by decide)).mono ?_
    rintro e w0 ⟨rfl, h0, k0, hz⟩
    obtain ⟨g, hg⟩ : ∃ g, g = w.heap.size + 1 := ⟨_, rfl⟩
    obtain ⟨m, hm⟩ : ∃ m, m = w.heap.size := ⟨_, rfl⟩
    rw [← hg] at h0 ⊢
    rw [← hm] at h0
    have s0 : Since w w0 g m (Dk.new 1000) := ⟨h0, by omega, k0⟩
    clear hz hg hm h0 k0
    go_wp2_with fail
    refine (arm_calls s0.disk a).mono ?_
    rintro e w1 ⟨rfl, h1, k1⟩
    rw [dyk_start] at h1
    have s1 := s0.next h1 k1
    clear s0 h1 k1
    go_wp2_with fail
    go_loopg [8] 0 (fun kq v8 wr => ∃ (j : Nat) (st : Int), kq + j = 0 ∧ v8 = .int .i64 ((j : Int) + 1) ∧ Since w wr g m (dyk a j st))
    case atStart => exact ⟨0, 0, rfl, rfl, s1⟩
    case round =>
      obtain ⟨j, st, hj, rfl, sj⟩ := hrel
      by_cases hlt : j < 0
      · exact absurd hlt (by omega)
      · obtain rfl : j = 0 := by omega
        by_cases q1 : a < 1
        · have hde : (dyk a 0 st).dead = false := decide_eq_false (by omega)
          have hwr : (dyk a 0 st).wrong 0 = 0 := by unfold Dk.wrong; rw [hde]; rfl
          go_wp2_with fail
          refine (read_calls sj.disk 0).mono ?_
          rintro e w' ⟨he, rfl⟩
          rw [hwr] at he
          subst he
          go_wp2_with fail
          refine (dead_calls sj.disk).mono ?_
          rintro e w' ⟨he, rfl⟩
          rw [hde] at he
          subst he
          go_wp2_with fail
          refine (crash_calls sj.disk (dyk_ok a _ st ha) (by intro x hx; cases hx) none 0 [] (by decide) ⟨rfl, by decide, fun h => absurd h (by decide)⟩ (fun _ h => by cases h) (fun _ h => by cases h)).mono ?_
          rintro e w2 ⟨rfl, h2, k2⟩
          rw [dyk_crash] at h2
          have s2 := sj.next h2 k2
          clear sj h2 k2
          go_wp2_with fail
          refine (dead_calls s2.disk).mono ?_
          rintro e w' ⟨rfl, rfl⟩
          go_wp2_with fail
          refine (append_calls s2.disk (last_ok st) 0 sX (by decide)).mono ?_
          rintro e w3 ⟨he, h3, k3⟩
          rw [last_append] at he
          subst he
          have s3 := s2.next h3 k3
          clear s2 h3 k3
          go_wp2_with fail
          refine (awake_calls _).mono ?_
          rintro e w5 ⟨rfl, b5⟩
          go_wp2
          go_ret
          exact ⟨rfl, (s3.fr.trans (Fr.of_below b5)).to_below (fun _ _ => id)⟩
        · by_cases q2 : a ≤ (0 : Int)
          · exact absurd q2 (by omega)
          · have q3 : (0 : Int) < a := by omega
            have hde : (dyk a 0 st).dead = false := decide_eq_false (by omega)
            have hwr : (dyk a 0 st).wrong 0 = 0 := by unfold Dk.wrong; rw [hde]; rfl
            go_wp2_with fail
            refine (read_calls sj.disk 0).mono ?_
            rintro e w' ⟨he, rfl⟩
            rw [hwr] at he
            subst he
            go_wp2_with fail
            refine (dead_calls sj.disk).mono ?_
            rintro e w' ⟨he, rfl⟩
            rw [hde] at he
            subst he
            go_wp2_with fail
            refine (crash_calls sj.disk (dyk_ok a _ st ha) (by intro x hx; cases hx) none 0 [] (by decide) ⟨rfl, by decide, fun h => absurd h (by decide)⟩ (fun _ h => by cases h) (fun _ h => by cases h)).mono ?_
            rintro e w2 ⟨rfl, h2, k2⟩
            rw [dyk_crash] at h2
            have s2 := sj.next h2 k2
            clear sj h2 k2
            go_wp2_with fail
            refine (dead_calls s2.disk).mono ?_
            rintro e w' ⟨rfl, rfl⟩
            go_wp2_with fail
            refine (append_calls s2.disk (last_ok st) 0 sX (by decide)).mono ?_
            rintro e w3 ⟨he, h3, k3⟩
            rw [last_append] at he
            subst he
            have s3 := s2.next h3 k3
            clear s2 h3 k3
            go_wp2_with fail
            refine (awake_calls _).mono ?_
            rintro e w5 ⟨rfl, b5⟩
            go_wp2
            go_ret
            exact ⟨rfl, (s3.fr.trans (Fr.of_below b5)).to_below (fun _ _ => id)⟩

set_option maxHeartbeats 2000000 in
theorem dies_some (a : Int) (n : Nat) (ha : a ≤ 9223372036854775807) (c1 : n ≤ 200) (w : World) : Calls Try.prog 4 #[.int .i64 a, .int .i64 n] w fun e w' => e = .returned (.bool true) ∧ Below w.heap.size w w' := by
    have c2 : (n : Int) ≤ 200 := by omega
    go_enter Try.func4, Try.ntmps4
    go_wp2_with fail
    refine (new_calls _ 1000 (by decide) (by decide)).mono ?_
    rintro e w0 ⟨rfl, h0, k0, hz⟩
    obtain ⟨g, hg⟩ : ∃ g, g = w.heap.size + 1 := ⟨_, rfl⟩
    obtain ⟨m, hm⟩ : ∃ m, m = w.heap.size := ⟨_, rfl⟩
    rw [← hg] at h0 ⊢
    rw [← hm] at h0
    have s0 : Since w w0 g m (Dk.new 1000) := ⟨h0, by omega, k0⟩
    clear hz hg hm h0 k0
    go_wp2_with fail
    refine (arm_calls s0.disk a).mono ?_
    rintro e w1 ⟨rfl, h1, k1⟩
    rw [dyk_start] at h1
    have s1 := s0.next h1 k1
    clear s0 h1 k1
    go_wp2_with fail
    go_loopg [8] n (fun kq v8 wr => ∃ (j : Nat) (st : Int), kq + j = n ∧ v8 = .int .i64 ((j : Int) + 1) ∧ Since w wr g m (dyk a j st))
    case atStart => exact ⟨0, 0, rfl, rfl, s1⟩
    case round =>
      obtain ⟨j, st, hj, rfl, sj⟩ := hrel
      by_cases hlt : j < n
      · obtain ⟨st2, hsy, hce⟩ := dyk_sync a j st (by omega)
        by_cases hd : 1 ≤ a ∧ a ≤ (j : Int) + 1
        · rw [if_pos hd] at hce
          have hd1 := hd.1
          have hd2 := hd.2
          clear hd
          go_wp2_with fail
          refine (sync_calls sj.disk (dyk_ok a j st ha) ((j : Int) + 1)).mono ?_
          rintro e w2 ⟨he, h2, k2⟩
          rw [hce] at he
          rw [hsy] at h2
          subst he
          have s2 := sj.next h2 k2
          clear sj h2 k2 hce hsy
          go_wp2
          go_roundg (n - (j + 1))
          case measure => omega
          case rel => exact ⟨j + 1, st2, by omega, by go_num, s2⟩
        · rw [if_neg hd] at hce
          by_cases hd1 : a < 1
          · clear hd
            go_wp2_with fail
            refine (sync_calls sj.disk (dyk_ok a j st ha) ((j : Int) + 1)).mono ?_
            rintro e w2 ⟨he, h2, k2⟩
            rw [hce] at he
            rw [hsy] at h2
            subst he
            have s2 := sj.next h2 k2
            clear sj h2 k2 hce hsy
            go_wp2
            go_roundg (n - (j + 1))
            case measure => omega
            case rel => exact ⟨j + 1, st2, by omega, by go_num, s2⟩
          · have hd2 : (j : Int) + 1 < a := by omega
            clear hd
            go_wp2_with fail
            refine (sync_calls sj.disk (dyk_ok a j st ha) ((j : Int) + 1)).mono ?_
            rintro e w2 ⟨he, h2, k2⟩
            rw [hce] at he
            rw [hsy] at h2
            subst he
            have s2 := sj.next h2 k2
            clear sj h2 k2 hce hsy
            go_wp2
            go_roundg (n - (j + 1))
            case measure => omega
            case rel => exact ⟨j + 1, st2, by omega, by go_num, s2⟩
      · obtain rfl : j = n := by omega
        by_cases q1 : a < 1
        · have hde : (dyk a j st).dead = false := decide_eq_false (by omega)
          have hwr : (dyk a j st).wrong 0 = 0 := by unfold Dk.wrong; rw [hde]; rfl
          go_wp2_with fail
          refine (read_calls sj.disk 0).mono ?_
          rintro e w' ⟨he, rfl⟩
          rw [hwr] at he
          subst he
          go_wp2_with fail
          refine (dead_calls sj.disk).mono ?_
          rintro e w' ⟨he, rfl⟩
          rw [hde] at he
          subst he
          go_wp2_with fail
          refine (crash_calls sj.disk (dyk_ok a _ st ha) (by intro x hx; cases hx) none 0 [] (by decide) ⟨rfl, by decide, fun h => absurd h (by decide)⟩ (fun _ h => by cases h) (fun _ h => by cases h)).mono ?_
          rintro e w2 ⟨rfl, h2, k2⟩
          rw [dyk_crash] at h2
          have s2 := sj.next h2 k2
          clear sj h2 k2
          go_wp2_with fail
          refine (dead_calls s2.disk).mono ?_
          rintro e w' ⟨rfl, rfl⟩
          go_wp2_with fail
          refine (append_calls s2.disk (last_ok st) 0 sX (by decide)).mono ?_
          rintro e w3 ⟨he, h3, k3⟩
          rw [last_append] at he
          subst he
          have s3 := s2.next h3 k3
          clear s2 h3 k3
          go_wp2_with fail
          refine (awake_calls _).mono ?_
          rintro e w5 ⟨rfl, b5⟩
          go_wp2
          go_ret
          exact ⟨rfl, (s3.fr.trans (Fr.of_below b5)).to_below (fun _ _ => id)⟩
        · by_cases q2 : a ≤ (j : Int)
          · have hde : (dyk a j st).dead = true := decide_eq_true (by omega)
            have hwr : (dyk a j st).wrong 0 = 50 := by unfold Dk.wrong; rw [hde]; rfl
            go_wp2_with fail
            refine (read_calls sj.disk 0).mono ?_
            rintro e w' ⟨he, rfl⟩
            rw [hwr] at he
            subst he
            go_wp2_with fail
            refine (dead_calls sj.disk).mono ?_
            rintro e w' ⟨he, rfl⟩
            rw [hde] at he
            subst he
            go_wp2_with fail
            refine (crash_calls sj.disk (dyk_ok a _ st ha) (by intro x hx; cases hx) none 0 [] (by decide) ⟨rfl, by decide, fun h => absurd h (by decide)⟩ (fun _ h => by cases h) (fun _ h => by cases h)).mono ?_
            rintro e w2 ⟨rfl, h2, k2⟩
            rw [dyk_crash] at h2
            have s2 := sj.next h2 k2
            clear sj h2 k2
            go_wp2_with fail
            refine (dead_calls s2.disk).mono ?_
            rintro e w' ⟨rfl, rfl⟩
            go_wp2_with fail
            refine (append_calls s2.disk (last_ok st) 0 sX (by decide)).mono ?_
            rintro e w3 ⟨he, h3, k3⟩
            rw [last_append] at he
            subst he
            have s3 := s2.next h3 k3
            clear s2 h3 k3
            go_wp2_with fail
            refine (awake_calls _).mono ?_
            rintro e w5 ⟨rfl, b5⟩
            go_wp2
            go_ret
            exact ⟨rfl, (s3.fr.trans (Fr.of_below b5)).to_below (fun _ _ => id)⟩
          · have q3 : (j : Int) < a := by omega
            have hde : (dyk a j st).dead = false := decide_eq_false (by omega)
            have hwr : (dyk a j st).wrong 0 = 0 := by unfold Dk.wrong; rw [hde]; rfl
            go_wp2_with fail
            refine (read_calls sj.disk 0).mono ?_
            rintro e w' ⟨he, rfl⟩
            rw [hwr] at he
            subst he
            go_wp2_with fail
            refine (dead_calls sj.disk).mono ?_
            rintro e w' ⟨he, rfl⟩
            rw [hde] at he
            subst he
            go_wp2_with fail
            refine (crash_calls sj.disk (dyk_ok a _ st ha) (by intro x hx; cases hx) none 0 [] (by decide) ⟨rfl, by decide, fun h => absurd h (by decide)⟩ (fun _ h => by cases h) (fun _ h => by cases h)).mono ?_
            rintro e w2 ⟨rfl, h2, k2⟩
            rw [dyk_crash] at h2
            have s2 := sj.next h2 k2
            clear sj h2 k2
            go_wp2_with fail
            refine (dead_calls s2.disk).mono ?_
            rintro e w' ⟨rfl, rfl⟩
            go_wp2_with fail
            refine (append_calls s2.disk (last_ok st) 0 sX (by decide)).mono ?_
            rintro e w3 ⟨he, h3, k3⟩
            rw [last_append] at he
            subst he
            have s3 := s2.next h3 k3
            clear s2 h3 k3
            go_wp2_with fail
            refine (awake_calls _).mono ?_
            rintro e w5 ⟨rfl, b5⟩
            go_wp2
            go_ret
            exact ⟨rfl, (s3.fr.trans (Fr.of_below b5)).to_below (fun _ _ => id)⟩

set_option maxHeartbeats 2000000 in
theorem dies_many (a many : Int) (ha : a ≤ 9223372036854775807) (c1 : 200 < many) (w : World) : Calls Try.prog 4 #[.int .i64 a, .int .i64 many] w fun e w' => e = .returned (.bool true) ∧ Below w.heap.size w w' := by
    go_enter Try.func4, Try.ntmps4
    go_wp2_with fail
    refine (new_calls _ 1000 (by decide) (by decide)).mono ?_
    rintro e w0 ⟨rfl, h0, k0, hz⟩
    obtain ⟨g, hg⟩ : ∃ g, g = w.heap.size + 1 := ⟨_, rfl⟩
    obtain ⟨m, hm⟩ : ∃ m, m = w.heap.size := ⟨_, rfl⟩
    rw [← hg] at h0 ⊢
    rw [← hm] at h0
    have s0 : Since w w0 g m (Dk.new 1000) := ⟨h0, by omega, k0⟩
    clear hz hg hm h0 k0
    go_wp2_with fail
    refine (arm_calls s0.disk a).mono ?_
    rintro e w1 ⟨rfl, h1, k1⟩
    rw [dyk_start] at h1
    have s1 := s0.next h1 k1
    clear s0 h1 k1
    go_wp2_with fail
    go_loopg [8] 200 (fun kq v8 wr => ∃ (j : Nat) (st : Int), kq + j = 200 ∧ v8 = .int .i64 ((j : Int) + 1) ∧ Since w wr g m (dyk a j st))
    case atStart => exact ⟨0, 0, rfl, rfl, s1⟩
    case round =>
      obtain ⟨j, st, hj, rfl, sj⟩ := hrel
      by_cases hlt : j < 200
      · obtain ⟨st2, hsy, hce⟩ := dyk_sync a j st (by omega)
        by_cases hd : 1 ≤ a ∧ a ≤ (j : Int) + 1
        · rw [if_pos hd] at hce
          have hd1 := hd.1
          have hd2 := hd.2
          clear hd
          go_wp2_with fail
          refine (sync_calls sj.disk (dyk_ok a j st ha) ((j : Int) + 1)).mono ?_
          rintro e w2 ⟨he, h2, k2⟩
          rw [hce] at he
          rw [hsy] at h2
          subst he
          have s2 := sj.next h2 k2
          clear sj h2 k2 hce hsy
          go_wp2
          go_roundg (200 - (j + 1))
          case measure => omega
          case rel => exact ⟨j + 1, st2, by omega, by go_num, s2⟩
        · rw [if_neg hd] at hce
          by_cases hd1 : a < 1
          · clear hd
            go_wp2_with fail
            refine (sync_calls sj.disk (dyk_ok a j st ha) ((j : Int) + 1)).mono ?_
            rintro e w2 ⟨he, h2, k2⟩
            rw [hce] at he
            rw [hsy] at h2
            subst he
            have s2 := sj.next h2 k2
            clear sj h2 k2 hce hsy
            go_wp2
            go_roundg (200 - (j + 1))
            case measure => omega
            case rel => exact ⟨j + 1, st2, by omega, by go_num, s2⟩
          · have hd2 : (j : Int) + 1 < a := by omega
            clear hd
            go_wp2_with fail
            refine (sync_calls sj.disk (dyk_ok a j st ha) ((j : Int) + 1)).mono ?_
            rintro e w2 ⟨he, h2, k2⟩
            rw [hce] at he
            rw [hsy] at h2
            subst he
            have s2 := sj.next h2 k2
            clear sj h2 k2 hce hsy
            go_wp2
            go_roundg (200 - (j + 1))
            case measure => omega
            case rel => exact ⟨j + 1, st2, by omega, by go_num, s2⟩
      · obtain rfl : j = 200 := by omega
        by_cases q1 : a < 1
        · have hde : (dyk a 200 st).dead = false := decide_eq_false (by omega)
          have hwr : (dyk a 200 st).wrong 0 = 0 := by unfold Dk.wrong; rw [hde]; rfl
          go_wp2_with fail
          refine (read_calls sj.disk 0).mono ?_
          rintro e w' ⟨he, rfl⟩
          rw [hwr] at he
          subst he
          go_wp2_with fail
          refine (dead_calls sj.disk).mono ?_
          rintro e w' ⟨he, rfl⟩
          rw [hde] at he
          subst he
          go_wp2_with fail
          refine (crash_calls sj.disk (dyk_ok a _ st ha) (by intro x hx; cases hx) none 0 [] (by decide) ⟨rfl, by decide, fun h => absurd h (by decide)⟩ (fun _ h => by cases h) (fun _ h => by cases h)).mono ?_
          rintro e w2 ⟨rfl, h2, k2⟩
          rw [dyk_crash] at h2
          have s2 := sj.next h2 k2
          clear sj h2 k2
          go_wp2_with fail
          refine (dead_calls s2.disk).mono ?_
          rintro e w' ⟨rfl, rfl⟩
          go_wp2_with fail
          refine (append_calls s2.disk (last_ok st) 0 sX (by decide)).mono ?_
          rintro e w3 ⟨he, h3, k3⟩
          rw [last_append] at he
          subst he
          have s3 := s2.next h3 k3
          clear s2 h3 k3
          go_wp2_with fail
          refine (awake_calls _).mono ?_
          rintro e w5 ⟨rfl, b5⟩
          go_wp2
          go_ret
          exact ⟨rfl, (s3.fr.trans (Fr.of_below b5)).to_below (fun _ _ => id)⟩
        · by_cases q2 : a ≤ (200 : Int)
          · have hde : (dyk a 200 st).dead = true := decide_eq_true (by omega)
            have hwr : (dyk a 200 st).wrong 0 = 50 := by unfold Dk.wrong; rw [hde]; rfl
            go_wp2_with fail
            refine (read_calls sj.disk 0).mono ?_
            rintro e w' ⟨he, rfl⟩
            rw [hwr] at he
            subst he
            go_wp2_with fail
            refine (dead_calls sj.disk).mono ?_
            rintro e w' ⟨he, rfl⟩
            rw [hde] at he
            subst he
            go_wp2_with fail
            refine (crash_calls sj.disk (dyk_ok a _ st ha) (by intro x hx; cases hx) none 0 [] (by decide) ⟨rfl, by decide, fun h => absurd h (by decide)⟩ (fun _ h => by cases h) (fun _ h => by cases h)).mono ?_
            rintro e w2 ⟨rfl, h2, k2⟩
            rw [dyk_crash] at h2
            have s2 := sj.next h2 k2
            clear sj h2 k2
            go_wp2_with fail
            refine (dead_calls s2.disk).mono ?_
            rintro e w' ⟨rfl, rfl⟩
            go_wp2_with fail
            refine (append_calls s2.disk (last_ok st) 0 sX (by decide)).mono ?_
            rintro e w3 ⟨he, h3, k3⟩
            rw [last_append] at he
            subst he
            have s3 := s2.next h3 k3
            clear s2 h3 k3
            go_wp2_with fail
            refine (awake_calls _).mono ?_
            rintro e w5 ⟨rfl, b5⟩
            go_wp2
            go_ret
            exact ⟨rfl, (s3.fr.trans (Fr.of_below b5)).to_below (fun _ _ => id)⟩
          · have q3 : (200 : Int) < a := by omega
            have hde : (dyk a 200 st).dead = false := decide_eq_false (by omega)
            have hwr : (dyk a 200 st).wrong 0 = 0 := by unfold Dk.wrong; rw [hde]; rfl
            go_wp2_with fail
            refine (read_calls sj.disk 0).mono ?_
            rintro e w' ⟨he, rfl⟩
            rw [hwr] at he
            subst he
            go_wp2_with fail
            refine (dead_calls sj.disk).mono ?_
            rintro e w' ⟨he, rfl⟩
            rw [hde] at he
            subst he
            go_wp2_with fail
            refine (crash_calls sj.disk (dyk_ok a _ st ha) (by intro x hx; cases hx) none 0 [] (by decide) ⟨rfl, by decide, fun h => absurd h (by decide)⟩ (fun _ h => by cases h) (fun _ h => by cases h)).mono ?_
            rintro e w2 ⟨rfl, h2, k2⟩
            rw [dyk_crash] at h2
            have s2 := sj.next h2 k2
            clear sj h2 k2
            go_wp2_with fail
            refine (dead_calls s2.disk).mono ?_
            rintro e w' ⟨rfl, rfl⟩
            go_wp2_with fail
            refine (append_calls s2.disk (last_ok st) 0 sX (by decide)).mono ?_
            rintro e w3 ⟨he, h3, k3⟩
            rw [last_append] at he
            subst he
            have s3 := s2.next h3 k3
            clear s2 h3 k3
            go_wp2_with fail
            refine (awake_calls _).mono ?_
            rintro e w5 ⟨rfl, b5⟩
            go_wp2
            go_ret
            exact ⟨rfl, (s3.fr.trans (Fr.of_below b5)).to_below (fun _ _ => id)⟩

theorem diskDies_calls (a many : Int) (ha : a ≤ 9223372036854775807) (w : World) : Calls Try.prog 4 #[.int .i64 a, .int .i64 many] w fun e w' => e = .returned (.bool true) ∧ Below w.heap.size w w' := by
  by_cases c1 : many < 0
  · exact dies_none a many ha c1 w
  · by_cases c2 : 200 < many
    · exact dies_many a many ha c2 w
    · obtain ⟨n, rfl⟩ := Int.eq_ofNat_of_zero_le (show 0 ≤ many by omega)
      exact dies_some a n ha (by omega) w
end Go.Proofs.Ytljfagagopaidaa
