/- Rows that are read, kept by what a call keeps. -/
import Derived.Test.YtljfagagopaidaaFr
import Derived.Test.YtljfagagopaidaaWWords
namespace Go.Proofs.Ytljfagagopaidaa
open Go.RowKit Go.Proofs.YtljfagagopaidaaW.PrintWords
set_option linter.unusedSimpArgs false
set_option linter.unusedVariables false

theorem block_add (a : Addr) (j : Nat) : (a.add j).block = a.block := by unfold Addr.add; split <;> rfl

theorem Fr.cell {S : Nat → Prop} {w w' : World} (k : Fr S w w') {a : Addr} {v : Value} (h : w.cell? a = some v) (hn : ¬ S a.block) : w'.cell? a = some v :=
  (World.cell?_of_block (w := w) (k.block a.block (World.block_lt_of_cell? w a h) hn)).trans h

theorem C_fr {α : Type} {d : Kd α} (hflat : ∀ w w' x cs, d.K w x cs → d.K w' x cs) {S : Nat → Prop} {w w' : World} {A : Option Addr} {n : Nat} {xs : List α} (h : d.C w A n xs) (k : Fr S w w') (hA : ∀ a, A = some a → ¬ S a.block) : d.C w' A n xs := by
  refine ⟨h.1, h.2.1, fun hn => ?_⟩
  obtain ⟨ad, rfl, hc⟩ := h.2.2 hn
  refine ⟨ad, rfl, fun j p hj => ?_⟩
  obtain ⟨c, hl, hK, hcell⟩ := hc j p hj
  exact ⟨c, hl, hflat _ _ _ _ hK, fun i u hu => k.cell (hcell i u hu) (by rw [block_add]; exact hA _ rfl)⟩

theorem flat_int (k : IntKind) : ∀ (w w' : World) (x : Int) (cs : List Value), (Kd.int k).K w x cs → (Kd.int k).K w' x cs := fun _ _ _ _ h => h
theorem flat_string : ∀ (w w' : World) (x : ByteArray) (cs : List Value), Kd.string.K w x cs → Kd.string.K w' x cs := fun _ _ _ _ h => h
theorem flat_bool : ∀ (w w' : World) (x : Bool) (cs : List Value), Kd.bool.K w x cs → Kd.bool.K w' x cs := fun _ _ _ _ h => h

end Go.Proofs.Ytljfagagopaidaa
