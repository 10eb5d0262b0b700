/- The two disks in one memory: what a call of the one keeps of the other. -/
import Derived.Test.YtljfagagopaidaaGd
import Derived.Test.YtljfagagopaidaaRl
import Derived.Test.YtljfagagopaidaaPf
import Derived.Test.YtljfagagopaidaaDw
import Derived.Deep.DeepCutAuto
namespace Go.Proofs.Ytljfagagopaidaa
open Go.RowKit Go.Proofs.YtljfagagopaidaaW.PrintWords
set_option linter.unusedSimpArgs false
set_option linter.unusedVariables false

/-- Both disks, in a memory that has grown from w. -/
structure Mid (w wr : World) (g m gr : Nat) (d r : Dk) : Prop where
  disk : DiskAt wr g m d
  ref : ∃ v, RefAt wr w.heap.size gr v r
  fr : Fr (fun _ => False) w wr
  ge : w.heap.size ≤ g ∧ w.heap.size ≤ m

theorem RefS.not_disk {wr : World} {base g m : Nat} {d : Dk} (h : DiskAt wr g m d) : ¬ RefS wr base g ∧ ¬ RefS wr base m := by
  constructor
  · rintro ⟨_, cs, t, fr, hb, ht⟩
    rw [h.blk] at hb
    injection hb with hb
    injection hb with _ h2
    rcases ht with rfl | rfl <;> cases h2
  · rintro ⟨_, cs, t, fr, hb, _⟩
    obtain ⟨es, clock, hm, _⟩ := h.map
    rw [hm] at hb
    cases hb

theorem Mid.onDisk {w wr w2 : World} {g m gr : Nat} {d r d2 : Dk} (h : Mid w wr g m gr d r) (h2 : DiskAt w2 g m d2) (k : Fr (Two g m) wr w2) : Mid w w2 g m gr d2 r := by
  obtain ⟨v, hr⟩ := h.ref
  have hnd := RefS.not_disk (base := w.heap.size) h.disk
  refine ⟨h2, ⟨v, hr.fr k (fun i hi hS => ?_)⟩, h.fr.then_ k (fun i hi e => by have := h.ge; rcases e with e | e <;> omega), h.ge⟩
  rcases hS with rfl | rfl
  · exact hnd.1 hi
  · exact hnd.2 hi

theorem Mid.onRef {w wr w2 : World} {g m gr : Nat} {d r r2 : Dk} (h : Mid w wr g m gr d r) (h2 : RefTo wr w2 w.heap.size gr r2) : ∃ r3, Mid w w2 g m gr d r3 ∧ Alike r2 r3 := by
  obtain ⟨v', r', h3, h4, k⟩ := h2
  have hnd := RefS.not_disk (base := w.heap.size) h.disk
  exact ⟨r', ⟨h.disk.fr k hnd.1 hnd.2, ⟨v', h3⟩, h.fr.then_ k (fun i hi e => by have := e.1; omega), h.ge⟩, h4⟩

theorem Mid.keep {w wr w2 : World} {g m gr : Nat} {d r : Dk} (h : Mid w wr g m gr d r) (k : Fr (fun _ => False) wr w2) : Mid w w2 g m gr d r := by
  obtain ⟨v, hr⟩ := h.ref
  exact ⟨h.disk.fr k id id, ⟨v, hr.fr k (fun _ _ => id)⟩, h.fr.trans k, h.ge⟩

theorem Mid.apart {w wr : World} {g m gr : Nat} {d r : Dk} (h : Mid w wr g m gr d r) : Apart r.files := by
  obtain ⟨v, hr⟩ := h.ref
  exact srt_nodup hr.srt
theorem Mid.many {w wr : World} {g m gr : Nat} {d r : Dk} (h : Mid w wr g m gr d r) (a : Alike d r) : d.files.length ≤ 65536 ∧ r.files.length ≤ 65536 := by
  obtain ⟨v, hr⟩ := h.ref
  have := hr.few
  rw [← a.files.length_eq]
  exact ⟨this, this⟩

end Go.Proofs.Ytljfagagopaidaa
