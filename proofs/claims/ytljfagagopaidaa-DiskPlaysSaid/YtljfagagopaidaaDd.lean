/- The disk's Drop and its function literal, walked. -/
import Derived.Test.YtljfagagopaidaaDe
namespace Go.Proofs.Ytljfagagopaidaa
open Go.RowKit
set_option linter.unusedSimpArgs false
set_option linter.unusedVariables false

def Dk.del (d : Dk) (f : Int) : Dk := { d with files := Ytljfagagopaidaa.drop d.files f }

theorem DiskAt.del_turned {w w2 : World} {g m : Nat} {d : Dk} {f : Int} {o : Obj} (h : DiskAt w g m d) (ht : Turned (w.alloc o).drew w2 m) (hm : MapIs w2 m (drop d.files f)) : DiskAt w2 g m (d.del f) :=
  ⟨(ht.block g h.ne.symm).trans (alloc_old h.blk o), hm⟩

set_option maxRecDepth 100000 in
set_option maxHeartbeats 400000 in
theorem drop1_calls {w : World} {g m bd bf : Nat} {d : Dk} (h : DiskAt w g m d) (hd : w.heap[bd]? = some (.cells #[.pointer (some ⟨g, 0, none⟩)] 24 (0, 0))) (f : Int) (hf : w.heap[bf]? = some (.cells #[.int .i64 f] 3 (0, 0)))
    (s : ByteArray) (n : Int) :
    Calls Try.prog 59 #[.agg #[.string s, .int .i64 n], .pointer (some ⟨bd, 0, none⟩), .pointer (some ⟨bf, 0, none⟩)] w fun e w' => e = .returned (.tuple #[]) ∧ DiskAt w' g m (d.del f) ∧ Fr (Two g m) w w' := by
  have c0 : ∀ o, (w.alloc o).cell? ⟨g, 0, none⟩ = some (.map (some m)) := fun o => (cell_blk (alloc_old h.blk o) 0).trans rfl
  have cd : ∀ o, (w.alloc o).cell? ⟨bd, 0, none⟩ = some (.pointer (some ⟨g, 0, none⟩)) := fun o => (cell_blk (alloc_old hd o) 0).trans rfl
  have cf : ∀ o, (w.alloc o).cell? ⟨bf, 0, none⟩ = some (.int .i64 f) := fun o => (cell_blk (alloc_old hf o) 0).trans rfl
  go_enter Try.func59, Try.ntmps59
  go_wp2
  refine wp_tail 5 (by kernel_rfl) (by kernel_rfl) ?_
  simp only [List.take_succ_cons, List.take_zero, List.drop_succ_cons, List.drop_zero]
  repeat still_step
  refine wpStill_nil ?_
  refine wp_delete rfl _ _ f rfl ((h.map.alloc _).drew) (by rfl) (by rfl) ?_
  intro w2 hm2 ht2
  have h2 := h.del_turned ht2 hm2
  have k2 : Fr (Two g m) w w2 := (Fr.refl _ _).put_turned ht2
  go_wp2
  go_end0
  exact ⟨rfl, h2, k2⟩

def Dk.dropped (d : Dk) (f : Int) : Dk := if d.wrong f ≠ 0 then d else d.changed f (d.step.del f)

set_option maxRecDepth 100000 in
set_option maxHeartbeats 400000 in
theorem drop_calls {w : World} {g m : Nat} {d : Dk} (h : DiskAt w g m d) (ok : d.Ok) (f : Int) :
    Calls Try.prog 26 #[.pointer (some ⟨g, 0, none⟩), .int .i64 f] w fun e w' => e = .returned (.int .i64 (d.changeE f)) ∧ DiskAt w' g m (d.dropped f) ∧ Fr (Two g m) w w' := by
  have hlt := lt_blk h.blk
  have hlm := h.map.lt
  by_cases hw : d.wrong f = 0
  · have hb : (d.wrong f != 0) = false := by simpa using hw
    have e1 : d.changeE f = d.stepE := by unfold Dk.changeE; rw [if_neg (by simp [hw])]
    have e2 : d.dropped f = d.changed f (d.step.del f) := by unfold Dk.dropped; rw [if_neg (by simp [hw])]
    have E1 := Lib.hid e1; have E2 := Lib.hid e2; clear e1 e2
    have Hw := Lib.hid hw; clear hw
    have h1 := (h.alloc (.cells #[.pointer (some ⟨g, 0, none⟩)] 24)).alloc (.cells #[.int .i64 f] 3)
    have hf1 : Fr (fun _ => False) w ((w.alloc (.cells #[.pointer (some ⟨g, 0, none⟩)] 24)).alloc (.cells #[.int .i64 f] 3)) := ((Fr.refl _ w).alloc _).alloc _
    have hbd : ((w.alloc (.cells #[.pointer (some ⟨g, 0, none⟩)] 24)).alloc (.cells #[.int .i64 f] 3)).heap[w.heap.size]? = some (.cells #[.pointer (some ⟨g, 0, none⟩)] 24 (0, 0)) := alloc_old (heap_alloc_new _ _) _
    have hbf : ((w.alloc (.cells #[.pointer (some ⟨g, 0, none⟩)] 24)).alloc (.cells #[.int .i64 f] 3)).heap[w.heap.size + 1]? = some (.cells #[.int .i64 f] 3 (0, 0)) := by
      have := heap_alloc_new (w.alloc (.cells #[.pointer (some ⟨g, 0, none⟩)] 24)) (.cells #[.int .i64 f] 3)
      simpa using this
    go_enter Try.func26, Try.ntmps26
    go_wp2_with fail
    refine (wrong_calls h1 f).mono ?_
    rintro e w' ⟨rfl, rfl⟩
    go_wp2_with fail
    refine (change_calls h1 ok f 59 _ (d.step.del f) runs59 ?_).mono ?_
    rotate_left
    · rintro e w3 ⟨rfl, h3, k3⟩
      go_wp2
      go_ret
      exact ⟨by rw [E1.out]; rfl, by rw [E2.out]; exact h3, hf1.none_.then_ k3 (fun _ _ h => h)⟩
    · intro w2 o k2 h2
      refine (drop1_calls (d := d.step) (h2.alloc o) (alloc_old (k2.keep hbd ?_) o) f (alloc_old (k2.keep hbf ?_) o) _ _).mono ?_
      · rintro (e | e) <;> omega
      · rintro (e | e) <;> omega
      · rintro e w3 ⟨rfl, h3, k3⟩
        exact ⟨rfl, h3, k3⟩
  · have hb : (d.wrong f != 0) = true := by simpa using hw
    have e1 : d.changeE f = d.wrong f := by unfold Dk.changeE; rw [if_pos hw]
    have e2 : d.dropped f = d := by unfold Dk.dropped; rw [if_pos hw]
    have E1 := Lib.hid e1; have E2 := Lib.hid e2; clear e1 e2
    have h1 := (h.alloc (.cells #[.pointer (some ⟨g, 0, none⟩)] 24)).alloc (.cells #[.int .i64 f] 3)
    go_enter Try.func26, Try.ntmps26
    go_wp2_with (first | (go_at_call 51; refine (wrong_calls h1 f).mono ?_; rintro e w' ⟨rfl, rfl⟩))
    go_ret
    exact ⟨by rw [E1.out]; rfl, by rw [E2.out]; exact h1, ((Fr.refl _ w).alloc _).alloc _⟩
end Go.Proofs.Ytljfagagopaidaa
