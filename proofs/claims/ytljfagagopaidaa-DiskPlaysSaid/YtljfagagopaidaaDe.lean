/- The disk's Sync and its function literal, walked. -/
import Derived.Test.YtljfagagopaidaaDc
namespace Go.Proofs.Ytljfagagopaidaa
open Go.RowKit
set_option linter.unusedSimpArgs false
set_option linter.unusedVariables false

set_option maxRecDepth 100000 in
set_option maxHeartbeats 400000 in
theorem sync1_calls {w : World} {g m bd bf : Nat} {d : Dk} (h : DiskAt w g m d) (hd : w.heap[bd]? = some (.cells #[.pointer (some ⟨g, 0, none⟩)] 24 (0, 0))) (f : Int) (hf : w.heap[bf]? = some (.cells #[.int .i64 f] 3 (0, 0)))
    (s : ByteArray) (n : Int) (hm : d.files.length < 1048576) (hs : s.size ≤ 140737488355328) :
    Calls Try.prog 54 #[.agg #[.string s, .int .i64 n], .pointer (some ⟨bd, 0, none⟩), .pointer (some ⟨bf, 0, none⟩)] w fun e w' => e = .returned (.tuple #[]) ∧ DiskAt w' g m (d.put ⟨f, s, s.size⟩) ∧ Fr (Two g m) w w' := by
  have Hm := Lib.hid hm; clear hm
  have c0 : ∀ o, (w.alloc o).cell? ⟨g, 0, none⟩ = some (.map (some m)) := fun o => (cell_blk (alloc_old h.blk o) 0).trans rfl
  have cd : ∀ o, (w.alloc o).cell? ⟨bd, 0, none⟩ = some (.pointer (some ⟨g, 0, none⟩)) := fun o => (cell_blk (alloc_old hd o) 0).trans rfl
  have cf : ∀ o, (w.alloc o).cell? ⟨bf, 0, none⟩ = some (.int .i64 f) := fun o => (cell_blk (alloc_old hf o) 0).trans rfl
  go_enter Try.func54, Try.ntmps54
  go_wp2
  refine wp_tail 11 (by kernel_rfl) (by kernel_rfl) ?_
  simp only [List.take_succ_cons, List.take_zero, List.drop_succ_cons, List.drop_zero]
  repeat still_step
  refine wpStill_nil ?_
  refine wp_update rfl _ _ _ ⟨f, s, s.size⟩ rfl ((h.map.alloc _).drew) Hm.out (by rfl) (by rfl) (by rfl) ?_
  intro w2 hm2 ht2
  have h2 := h.put_turned ht2 hm2
  have k2 : Fr (Two g m) w w2 := (Fr.refl _ _).put_turned ht2
  go_wp2
  go_end0
  exact ⟨rfl, h2, k2⟩

def Dk.sync (d : Dk) (f : Int) : Dk := if d.wrong f ≠ 0 then d else d.changed f (d.step.put ⟨f, sAt d.files f, (sAt d.files f).size⟩)
def Dk.changeE (d : Dk) (f : Int) : Int := if d.wrong f ≠ 0 then d.wrong f else d.stepE

theorem Dk.Ok.bytes {d : Dk} (ok : d.Ok) : Ytljfagagopaidaa.bytes d.files ≤ 16777216 := by
  rcases ok.size with hsz | hsz
  · have := ok.lim; omega
  · rw [hsz]; simp [Ytljfagagopaidaa.bytes]
theorem Dk.Ok.sAt {d : Dk} (ok : d.Ok) (f : Int) : (Ytljfagagopaidaa.sAt d.files f).size ≤ 16777216 := Nat.le_trans (sAt_le _ _) ok.bytes
theorem Dk.Ok.step {d : Dk} (h : d.Ok) : d.files.length < 1048576 := by have := h.many; omega

set_option maxRecDepth 100000 in
set_option maxHeartbeats 400000 in
theorem sync_calls {w : World} {g m : Nat} {d : Dk} (h : DiskAt w g m d) (ok : d.Ok) (f : Int) :
    Calls Try.prog 15 #[.pointer (some ⟨g, 0, none⟩), .int .i64 f] w fun e w' => e = .returned (.int .i64 (d.changeE f)) ∧ DiskAt w' g m (d.sync f) ∧ Fr (Two g m) w w' := by
  have hlt := lt_blk h.blk
  have hlm := h.map.lt
  have hsl : (sAt d.files f).size ≤ 140737488355328 := Nat.le_trans (ok.sAt f) (by omega)
  by_cases hw : d.wrong f = 0
  · have hb : (d.wrong f != 0) = false := by simpa using hw
    have e1 : d.changeE f = d.stepE := by unfold Dk.changeE; rw [if_neg (by simp [hw])]
    have e2 : d.sync f = d.changed f (d.step.put ⟨f, sAt d.files f, (sAt d.files f).size⟩) := by unfold Dk.sync; rw [if_neg (by simp [hw])]
    have E1 := Lib.hid e1; have E2 := Lib.hid e2; clear e1 e2
    have Hw := Lib.hid hw; clear hw
    have h1 := (h.alloc (.cells #[.pointer (some ⟨g, 0, none⟩)] 24)).alloc (.cells #[.int .i64 f] 3)
    have hf1 : Fr (fun _ => False) w ((w.alloc (.cells #[.pointer (some ⟨g, 0, none⟩)] 24)).alloc (.cells #[.int .i64 f] 3)) := ((Fr.refl _ w).alloc _).alloc _
    have hbd : ((w.alloc (.cells #[.pointer (some ⟨g, 0, none⟩)] 24)).alloc (.cells #[.int .i64 f] 3)).heap[w.heap.size]? = some (.cells #[.pointer (some ⟨g, 0, none⟩)] 24 (0, 0)) := alloc_old (heap_alloc_new _ _) _
    have hbf : ((w.alloc (.cells #[.pointer (some ⟨g, 0, none⟩)] 24)).alloc (.cells #[.int .i64 f] 3)).heap[w.heap.size + 1]? = some (.cells #[.int .i64 f] 3 (0, 0)) := by
      have := heap_alloc_new (w.alloc (.cells #[.pointer (some ⟨g, 0, none⟩)] 24)) (.cells #[.int .i64 f] 3)
      simpa using this
    go_enter Try.func15, Try.ntmps15
    go_wp2_with fail
    refine (wrong_calls h1 f).mono ?_
    rintro e w' ⟨rfl, rfl⟩
    go_wp2_with fail
    refine (change_calls h1 ok f 54 _ (d.step.put ⟨f, sAt d.files f, (sAt d.files f).size⟩) runs54 ?_).mono ?_
    rotate_left
    · rintro e w3 ⟨rfl, h3, k3⟩
      go_wp2
      go_ret
      exact ⟨by rw [E1.out]; rfl, by rw [E2.out]; exact h3, hf1.none_.then_ k3 (fun _ _ h => h)⟩
    · intro w2 o k2 h2
      refine (sync1_calls (d := d.step) (h2.alloc o) (alloc_old (k2.keep hbd ?_) o) f (alloc_old (k2.keep hbf ?_) o) _ _ (by have := ok.step; exact this) hsl).mono ?_
      · rintro (e | e) <;> omega
      · rintro (e | e) <;> omega
      · rintro e w3 ⟨rfl, h3, k3⟩
        exact ⟨rfl, h3, k3⟩
  · have hb : (d.wrong f != 0) = true := by simpa using hw
    have e1 : d.changeE f = d.wrong f := by unfold Dk.changeE; rw [if_pos hw]
    have e2 : d.sync f = d := by unfold Dk.sync; rw [if_pos hw]
    have E1 := Lib.hid e1; have E2 := Lib.hid e2; clear e1 e2
    have h1 := (h.alloc (.cells #[.pointer (some ⟨g, 0, none⟩)] 24)).alloc (.cells #[.int .i64 f] 3)
    go_enter Try.func15, Try.ntmps15
    go_wp2_with (first | (go_at_call 51; refine (wrong_calls h1 f).mono ?_; rintro e w' ⟨rfl, rfl⟩))
    go_ret
    exact ⟨by rw [E1.out]; rfl, by rw [E2.out]; exact h1, ((Fr.refl _ w).alloc _).alloc _⟩
end Go.Proofs.Ytljfagagopaidaa
