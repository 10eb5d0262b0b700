/- The disk's small methods, each walked once. -/
import Derived.Test.YtljfagagopaidaaFr
import Derived.Test.YtljfagagopaidaaMop
import Derived.BigQuiet
import Derived.Deep.QuietTactic
import Derived.StillTailTactics
import Derived.Lib.Hide
namespace Go.Proofs.Ytljfagagopaidaa
open Go.RowKit
set_option linter.unusedSimpArgs false
set_option linter.unusedVariables false

structure Dk where
  files : List Fl
  limit : Int
  armed : Int
  dead : Bool
  steps : Int

/-- A disk at block g, its map at block m. -/
structure DiskAt (w : World) (g m : Nat) (d : Dk) : Prop where
  blk : w.heap[g]? = some (.cells #[.map (some m), .int .i64 d.limit, .int .i64 d.armed, .bool d.dead, .int .i64 d.steps] 75 (0, 0))
  map : MapIs w m d.files

def Dk.wrong (d : Dk) (f : Int) : Int := if d.dead then 50 else if f < 0 ∨ 65536 ≤ f then 1 else 0
def Dk.step (d : Dk) : Dk := 
  { d with steps := wrap64 (d.steps + 1), armed := if 0 < d.armed then d.armed - 1 else d.armed, dead := if 0 < d.armed then d.armed - 1 == 0 else d.dead }
def Dk.stepE (d : Dk) : Int := if d.step.dead then 50 else 0

set_option maxHeartbeats 400000 in
theorem wrong_calls {w : World} {g m : Nat} {d : Dk} (h : DiskAt w g m d) (f : Int) :
    Calls Try.prog 51 #[.pointer (some ⟨g, 0, none⟩), .int .i64 f] w fun e w' => e = .returned (.int .i64 (d.wrong f)) ∧ w = w' := by
  have c3 : w.cell? ⟨g, 3, none⟩ = some (.bool d.dead) := (cell_blk h.blk 3).trans rfl
  unfold Dk.wrong
  cases hd : d.dead with
  | true =>
    rw [hd] at c3
    go_enter Try.func51, Try.ntmps51
    go_wp2
    go_ret
    exact ⟨rfl, rfl⟩
  | false =>
    rw [hd] at c3
    by_cases h1 : f < 0
    · go_enter Try.func51, Try.ntmps51
      go_wp2
      go_ret
      exact ⟨by simp [h1], rfl⟩
    · by_cases h2 : 65536 ≤ f
      · go_enter Try.func51, Try.ntmps51
        go_wp2
        go_ret
        exact ⟨by simp [h2], rfl⟩
      · go_enter Try.func51, Try.ntmps51
        go_wp2
        go_ret
        exact ⟨by simp [h1, h2], rfl⟩

theorem wrong_nil (w : World) (f : Int) :
    Calls Try.prog 51 #[.pointer none, .int .i64 f] w fun e w' => e = .returned (.int .i64 2) ∧ w = w' := by
  go_enter Try.func51, Try.ntmps51
  go_wp2
  go_ret
  exact ⟨rfl, rfl⟩


def Two (g m : Nat) : Nat → Prop := fun k => k = g ∨ k = m


theorem DiskAt.ne {w : World} {g m : Nat} {d : Dk} (h : DiskAt w g m d) : m ≠ g := by
  rintro rfl
  obtain ⟨es, clock, hb, _⟩ := h.map
  rw [h.blk] at hb
  cases hb

theorem DiskAt.fr {w w' : World} {g m : Nat} {d : Dk} {S : Nat → Prop} (h : DiskAt w g m d) (k : Fr S w w') (hg : ¬ S g) (hm : ¬ S m) : DiskAt w' g m d :=
  ⟨k.keep h.blk hg, h.map.of_block (k.block _ h.map.lt hm)⟩

theorem DiskAt.alloc {w : World} {g m : Nat} {d : Dk} (h : DiskAt w g m d) (o : Obj) : DiskAt (w.alloc o) g m d := h.fr ((Fr.refl (fun _ => False) w).alloc o) id id

theorem MapIs.setCell {w : World} {m : Nat} {l : List Fl} (h : MapIs w m l) {p : Addr} (hp : m ≠ p.block) (v : Value) : MapIs (w.setCell p v) m l := h.of_block (Below.heap_setCell _ _ _ _ hp)

set_option maxHeartbeats 400000 in
theorem step_calls {w : World} {g m : Nat} {d : Dk} (h : DiskAt w g m d) (ha : 0 ≤ d.armed) (ha2 : d.armed ≤ 9223372036854775807) :
    Calls Try.prog 52 #[.pointer (some ⟨g, 0, none⟩)] w fun e w' => e = .returned (.int .i64 d.stepE) ∧ DiskAt w' g m d.step ∧ Fr (Two g m) w w' := by
  have c2 : w.cell? ⟨g, 2, none⟩ = some (.int .i64 d.armed) := (cell_blk h.blk 2).trans rfl
  have c3 : w.cell? ⟨g, 3, none⟩ = some (.bool d.dead) := (cell_blk h.blk 3).trans rfl
  have c4 : w.cell? ⟨g, 4, none⟩ = some (.int .i64 d.steps) := (cell_blk h.blk 4).trans rfl
  have f2 := free_blk h.blk 2
  have f3 := free_blk h.blk 3
  have f4 := free_blk h.blk 4
  have hfr : ∀ a b c, Fr (Two g m) w (((w.setCell ⟨g, 4, none⟩ a).setCell ⟨g, 2, none⟩ b).setCell ⟨g, 3, none⟩ c) := fun a b c =>
    (((Fr.refl _ w).setCell (fun _ => .inl rfl) _).setCell (fun _ => .inl rfl) _).setCell (fun _ => .inl rfl) _
  have hat : ∀ a b c, DiskAt (((w.setCell ⟨g, 4, none⟩ (.int .i64 a)).setCell ⟨g, 2, none⟩ (.int .i64 b)).setCell ⟨g, 3, none⟩ (.bool c)) g m { d with steps := a, armed := b, dead := c } := fun a b c =>
    ⟨by simpa using set_blk (set_blk (set_blk h.blk 4 (.int .i64 a)) 2 (.int .i64 b)) 3 (.bool c), ((h.map.setCell h.ne _).setCell h.ne _).setCell h.ne _⟩
  have hfr1 : ∀ a, Fr (Two g m) w (w.setCell ⟨g, 4, none⟩ a) := fun a => (Fr.refl _ w).setCell (fun _ => .inl rfl) _
  have hat1 : ∀ a, DiskAt (w.setCell ⟨g, 4, none⟩ (.int .i64 a)) g m { d with steps := a } := fun a =>
    ⟨by simpa using set_blk h.blk 4 (.int .i64 a), h.map.setCell h.ne _⟩
  by_cases h1 : 0 < d.armed
  · by_cases h2 : d.armed = 1
    · have hx : ((d.armed - 1) == 0) = true := by rw [h2]; rfl
      have Hx := Lib.hid h2; clear h2
      go_enter Try.func52, Try.ntmps52
      go_wp2
      go_ret
      exact ⟨by simp [Dk.stepE, Dk.step, h1, hx], by simpa [Dk.step, h1, hx] using hat _ _ _, hfr _ _ _⟩
    · have hx : ((d.armed - 1) == 0) = false := by rw [beq_eq_false_iff_ne]; omega
      go_enter Try.func52, Try.ntmps52
      go_wp2
      go_ret
      exact ⟨by simp [Dk.stepE, Dk.step, h1, hx], by simpa [Dk.step, h1, hx] using hat _ _ _, hfr _ _ _⟩
  · have h0 : (if 0 < d.armed then d.armed - 1 else d.armed) = d.armed := if_neg h1
    have h0' : (if 0 < d.armed then d.armed - 1 == 0 else d.dead) = d.dead := if_neg h1
    have Hs := Lib.hid (show d.step = { d with steps := wrap64 (d.steps + 1) } by unfold Dk.step; rw [h0, h0'])
    have He := Lib.hid (show d.stepE = if d.dead then 50 else 0 by unfold Dk.stepE; rw [Hs.out])
    clear h0 h0'
    cases hd : d.dead with
    | true =>
      rw [hd] at c3
      have Hx := Lib.hid hd
      clear hd
      go_enter Try.func52, Try.ntmps52
      go_wp2
      go_ret
      exact ⟨by rw [He.out, Hx.out]; rfl, by rw [Hs.out]; exact hat1 _, hfr1 _⟩
    | false =>
      rw [hd] at c3
      have Hx := Lib.hid hd
      clear hd
      go_enter Try.func52, Try.ntmps52
      go_wp2
      go_ret
      exact ⟨by rw [He.out, Hx.out]; rfl, by rw [Hs.out]; exact hat1 _, hfr1 _⟩

def bytes (l : List Fl) : Nat := (l.map fun x => x.s.size).sum

theorem bytes_perm {l l' : List Fl} (h : l.Perm l') : bytes l = bytes l' := (h.map _).sum_nat

end Go.Proofs.Ytljfagagopaidaa
