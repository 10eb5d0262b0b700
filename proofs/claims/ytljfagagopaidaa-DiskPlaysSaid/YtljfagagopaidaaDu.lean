/- The disk's Cut and its function literal, walked. -/
import Derived.Test.YtljfagagopaidaaDd
import Derived.Test.YtljfagagopaidaaDm
namespace Go.Proofs.Ytljfagagopaidaa
open Go.RowKit
set_option linter.unusedSimpArgs false
set_option linter.unusedVariables false

/-- The first n bytes. -/
def cutS (s : ByteArray) (n : Int) : ByteArray := s.extract 0 n.toNat

set_option maxRecDepth 100000 in
set_option maxHeartbeats 400000 in
theorem cut1_calls {w : World} {g m bs bd bf : Nat} {d : Dk} (h : DiskAt w g m d) (hd : w.heap[bd]? = some (.cells #[.pointer (some ⟨g, 0, none⟩)] 24 (0, 0))) (f k : Int) (hf : w.heap[bf]? = some (.cells #[.int .i64 f] 3 (0, 0))) (hk : w.heap[bs]? = some (.cells #[.int .i64 k] 3 (0, 0)))
    (s : ByteArray) (n : Int) (hm : d.files.length < 1048576) (hs : s.size ≤ 140737488355328) (hk0 : 0 ≤ k) (hk1 : k ≤ s.size) :
    Calls Try.prog 58 #[.agg #[.string s, .int .i64 n], .pointer (some ⟨bs, 0, none⟩), .pointer (some ⟨bd, 0, none⟩), .pointer (some ⟨bf, 0, none⟩)] w fun e w' => e = .returned (.tuple #[]) ∧ DiskAt w' g m (d.put ⟨f, cutS s k, k⟩) ∧ Fr (Two g m) w w' := by
  have Hm := Lib.hid hm; clear hm
  have c0 : ∀ o, (w.alloc o).cell? ⟨g, 0, none⟩ = some (.map (some m)) := fun o => (cell_blk (alloc_old h.blk o) 0).trans rfl
  have cd : ∀ o, (w.alloc o).cell? ⟨bd, 0, none⟩ = some (.pointer (some ⟨g, 0, none⟩)) := fun o => (cell_blk (alloc_old hd o) 0).trans rfl
  have cf : ∀ o, (w.alloc o).cell? ⟨bf, 0, none⟩ = some (.int .i64 f) := fun o => (cell_blk (alloc_old hf o) 0).trans rfl
  have cs : ∀ o, (w.alloc o).cell? ⟨bs, 0, none⟩ = some (.int .i64 k) := fun o => (cell_blk (alloc_old hk o) 0).trans rfl
  go_enter Try.func58, Try.ntmps58
  go_wp2
  refine wp_tail 11 (by kernel_rfl) (by kernel_rfl) ?_
  simp only [List.take_succ_cons, List.take_zero, List.drop_succ_cons, List.drop_zero]
  repeat still_step
  refine wpStill_nil ?_
  refine wp_update rfl _ _ _ ⟨f, cutS s k, k⟩ rfl ((h.map.alloc _).drew) Hm.out (by rfl) (by rfl) (by rfl) ?_
  intro w2 hm2 ht2
  have h2 := h.put_turned ht2 hm2
  have k2 : Fr (Two g m) w w2 := (Fr.refl _ _).put_turned ht2
  go_wp2
  go_end0
  exact ⟨rfl, h2, k2⟩

def Dk.cutE (d : Dk) (f k : Int) : Int := if d.wrong f ≠ 0 then d.wrong f else if k < 0 then 1 else if ((sAt d.files f).size : Int) < k then 1 else d.stepE
def Dk.cut (d : Dk) (f k : Int) : Dk := if d.wrong f ≠ 0 then d else if k < 0 then d else if ((sAt d.files f).size : Int) < k then d else d.changed f (d.step.put ⟨f, cutS (sAt d.files f) k, k⟩)

theorem Dk.cut_wrong {d : Dk} {f : Int} (k : Int) (h : d.wrong f ≠ 0) : d.cutE f k = d.wrong f ∧ d.cut f k = d := by
  unfold Dk.cutE Dk.cut
  rw [if_pos h, if_pos h]
  exact ⟨rfl, rfl⟩
theorem Dk.cut_neg {d : Dk} {f k : Int} (h : d.wrong f = 0) (h2 : k < 0) : d.cutE f k = 1 ∧ d.cut f k = d := by
  have h' : ¬ (d.wrong f ≠ 0) := by simp [h]
  unfold Dk.cutE Dk.cut
  rw [if_neg h', if_neg h', if_pos h2, if_pos h2]
  exact ⟨rfl, rfl⟩
theorem Dk.cut_long {d : Dk} {f k : Int} (h : d.wrong f = 0) (h2 : 0 ≤ k) (h3 : ((sAt d.files f).size : Int) < k) : d.cutE f k = 1 ∧ d.cut f k = d := by
  have h' : ¬ (d.wrong f ≠ 0) := by simp [h]
  have h2' : ¬ k < 0 := by omega
  unfold Dk.cutE Dk.cut
  rw [if_neg h', if_neg h', if_neg h2', if_neg h2', if_pos h3, if_pos h3]
  exact ⟨rfl, rfl⟩
theorem Dk.cut_goes {d : Dk} {f k : Int} (h : d.wrong f = 0) (h2 : 0 ≤ k) (h3 : k ≤ ((sAt d.files f).size : Int)) : d.cutE f k = d.stepE ∧ d.cut f k = d.changed f (d.step.put ⟨f, cutS (sAt d.files f) k, k⟩) := by
  have h' : ¬ (d.wrong f ≠ 0) := by simp [h]
  have h2' : ¬ k < 0 := by omega
  have h3' : ¬ ((sAt d.files f).size : Int) < k := by omega
  unfold Dk.cutE Dk.cut
  rw [if_neg h', if_neg h', if_neg h2', if_neg h2', if_neg h3', if_neg h3']
  exact ⟨rfl, rfl⟩

set_option maxRecDepth 100000 in
set_option maxHeartbeats 400000 in
theorem cut_calls {w : World} {g m : Nat} {d : Dk} (h : DiskAt w g m d) (ok : d.Ok) (f k : Int) :
    Calls Try.prog 24 #[.pointer (some ⟨g, 0, none⟩), .int .i64 f, .int .i64 k] w fun e w' => e = .returned (.int .i64 (d.cutE f k)) ∧ DiskAt w' g m (d.cut f k) ∧ Fr (Two g m) w w' := by
  have hlt := lt_blk h.blk
  have hlm := h.map.lt
  have hsl : (sAt d.files f).size ≤ 140737488355328 := Nat.le_trans (ok.sAt f) (by omega)
  obtain ⟨W, hW⟩ : ∃ W, W = ((w.alloc (.cells #[.pointer (some ⟨g, 0, none⟩)] 24)).alloc (.cells #[.int .i64 f] 3)).alloc (.cells #[.int .i64 k] 3) := ⟨_, rfl⟩
  have h1 : DiskAt W g m d := by rw [hW]; exact ((h.alloc _).alloc _).alloc _
  have hf1 : Fr (fun _ => False) w W := by rw [hW]; exact (((Fr.refl _ w).alloc _).alloc _).alloc _
  have hbd : W.heap[w.heap.size]? = some (.cells #[.pointer (some ⟨g, 0, none⟩)] 24 (0, 0)) := by rw [hW]; exact alloc_old (alloc_old (heap_alloc_new _ _) _) _
  have hbf : W.heap[w.heap.size + 1]? = some (.cells #[.int .i64 f] 3 (0, 0)) := by
    have := heap_alloc_new (w.alloc (.cells #[.pointer (some ⟨g, 0, none⟩)] 24)) (.cells #[.int .i64 f] 3)
    rw [hW]
    exact alloc_old (by simpa using this) _
  have hbk : W.heap[w.heap.size + 2]? = some (.cells #[.int .i64 k] 3 (0, 0)) := by
    have := heap_alloc_new ((w.alloc (.cells #[.pointer (some ⟨g, 0, none⟩)] 24)).alloc (.cells #[.int .i64 f] 3)) (.cells #[.int .i64 k] 3)
    rw [hW]
    simpa using this
  by_cases hw : d.wrong f = 0
  · have hb : (d.wrong f != 0) = false := by simpa using hw
    have Hw := Lib.hid hw; clear hw
    have HW := Lib.hid hW; clear hW
    have hlk : ∀ n, (Instr.lookup 73 (.map (some m)) (.int .i64 f) false).run Try.prog (W.drewN n) = .ok (.agg #[.string (sAt d.files f), .int .i64 (nAt d.files f)]) (W.drewN n) := by
      intro n
      have := (h1.map.of_block (w' := W.drewN n) rfl).lookup f
      rwa [atKey_eq] at this
    have hfl := field77 (sAt d.files f) (nAt d.files f)
    have cd : W.cell? ⟨w.heap.size, 0, none⟩ = some (.pointer (some ⟨g, 0, none⟩)) := (cell_blk hbd 0).trans rfl
    have cf : W.cell? ⟨w.heap.size + 1, 0, none⟩ = some (.int .i64 f) := (cell_blk hbf 0).trans rfl
    have ck : W.cell? ⟨w.heap.size + 2, 0, none⟩ = some (.int .i64 k) := (cell_blk hbk 0).trans rfl
    have c0 : W.cell? ⟨g, 0, none⟩ = some (.map (some m)) := (cell_blk h1.blk 0).trans rfl
    rcases Int.lt_or_le k 0 with hk | hk
    · have Hk := Lib.hid hk
      have hk1 : decide (k < 0) = true := decide_eq_true hk
      go_enter Try.func24, Try.ntmps24
      go_wp2_with fail
      rw [← HW.out]
      refine (wrong_calls h1 f).mono ?_
      rintro e w' ⟨rfl, rfl⟩
      go_wp2_with fail
      go_quiet (fail)
      go_wp2
      go_ret
      exact ⟨by rw [(Dk.cut_neg Hw.out Hk.out).1]; rfl, by rw [(Dk.cut_neg Hw.out Hk.out).2]; exact h1.fr ((Fr.refl (fun _ => False) _).drewN _) id id, hf1.none_.drewN _⟩
    · have Hk := Lib.hid hk
      have hk1 : decide (k < 0) = false := decide_eq_false (by omega)
      clear hk
      rcases Int.lt_or_le ((sAt d.files f).size : Int) k with hl | hl
      · have Hl := Lib.hid hl
        have hl1 : decide (((sAt d.files f).size : Int) < k) = true := decide_eq_true hl
        go_enter Try.func24, Try.ntmps24
        go_wp2_with fail
        rw [← HW.out]
        refine (wrong_calls h1 f).mono ?_
        rintro e w' ⟨rfl, rfl⟩
        go_wp2_with fail
        go_quiet (fail)
        go_wp2
        go_ret
        exact ⟨by rw [(Dk.cut_long Hw.out Hk.out Hl.out).1]; rfl, by rw [(Dk.cut_long Hw.out Hk.out Hl.out).2]; exact h1.fr ((Fr.refl (fun _ => False) _).drewN _) id id, hf1.none_.drewN _⟩
      · have Hl := Lib.hid hl
        have hl1 : decide (((sAt d.files f).size : Int) < k) = false := decide_eq_false (by omega)
        clear hl
        go_enter Try.func24, Try.ntmps24
        go_wp2_with fail
        rw [← HW.out]
        refine (wrong_calls h1 f).mono ?_
        rintro e w' ⟨rfl, rfl⟩
        go_wp2_with fail
        go_quiet (fail)
        go_wp2_with fail
        refine (change_calls (h1.fr ((Fr.refl (fun _ => False) _).drewN _) id id) ok f 58 _ (d.step.put ⟨f, cutS (sAt d.files f) k, k⟩) runs58 ?_).mono ?_
        rotate_left
        · rintro e w3 ⟨rfl, h3, k3⟩
          go_wp2
          go_ret
          exact ⟨by rw [(Dk.cut_goes Hw.out Hk.out Hl.out).1]; rfl, by rw [(Dk.cut_goes Hw.out Hk.out Hl.out).2]; exact h3, (hf1.drewN _).none_.then_ k3 (fun _ _ h => h)⟩
        · intro w2 o k2 h2
          refine (cut1_calls (d := d.step) (h2.alloc o) (alloc_old (k2.keep (drewN_blk hbd _) ?_) o) f k (alloc_old (k2.keep (drewN_blk hbf _) ?_) o) (alloc_old (k2.keep (drewN_blk hbk _) ?_) o) _ _ (by have := ok.step; exact this) hsl Hk.out Hl.out).mono ?_
          · rintro (e | e) <;> omega
          · rintro (e | e) <;> omega
          · rintro (e | e) <;> omega
          · rintro e w3 ⟨rfl, h3, k3⟩
            exact ⟨rfl, h3, k3⟩
  · have hb : (d.wrong f != 0) = true := by simpa using hw
    have Hw := Lib.hid hw; clear hw
    have HW := Lib.hid hW; clear hW
    go_enter Try.func24, Try.ntmps24
    go_wp2_with fail
    rw [← HW.out]
    refine (wrong_calls h1 f).mono ?_
    rintro e w' ⟨rfl, rfl⟩
    go_wp2
    go_ret
    exact ⟨by rw [(Dk.cut_wrong k Hw.out).1]; rfl, by rw [(Dk.cut_wrong k Hw.out).2]; exact h1, hf1.none_⟩
end Go.Proofs.Ytljfagagopaidaa
