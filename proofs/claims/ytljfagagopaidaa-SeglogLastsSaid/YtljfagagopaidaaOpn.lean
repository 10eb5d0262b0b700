/- An argument's reading, opened as a kind: of a type whose every reading is of the kind. -/
import Derived.Test.YtljfagagopaidaaWWords
import Derived.ChangeSlices
import Derived.OpenShut
namespace Go.Proofs.Ytljfagagopaidaa
open Go.RowKit Go.ChangeShapes Go.Proofs.YtljfagagopaidaaW.PrintWords
set_option linter.unusedSimpArgs false
set_option linter.unusedVariables false

/-- Every reading of the type is of the kind, and of what Q says. -/
def Opn (P : Program) (t : TypeId) {α : Type} (d : Kd α) (Q : α → Prop) : Prop :=
  P.cellsOf t = d.sz ∧ ∀ (H : Type) (enc : TypeId × Value → H) (W : World) (base : Nat) (spare : Nat → Bool) (held : Bool) (fuel : Nat) (cs : List Value) (x : DataW H × List MemPlace),
    DataW.trod enc P W base spare held fuel t cs = some x → ∃ a, d.K W a cs ∧ Q a

section
variable {P : Program} {t e : TypeId}
theorem opn_int {k : IntKind} (ht : P.underlying t = some (.int k)) (hc : P.cellsOf t = 1) : Opn P t (Kd.int k) (fun n => (Lit.int k n).wf = true) := by
  refine ⟨hc, fun H enc W base spare held fuel cs x h => ?_⟩
  obtain ⟨n, rfl, rfl, hw⟩ := DataW.trod_int ht h
  exact ⟨n, rfl, hw⟩
theorem opn_bool (ht : P.underlying t = some .bool) (hc : P.cellsOf t = 1) : Opn P t Kd.bool (fun _ => True) := by
  refine ⟨hc, fun H enc W base spare held fuel cs x h => ?_⟩
  obtain ⟨n, rfl, rfl⟩ := DataW.trod_bool ht h
  exact ⟨n, rfl, trivial⟩
theorem opn_string (ht : P.underlying t = some .string) (hc : P.cellsOf t = 1) : Opn P t Kd.string (fun s => s.size ≤ 9223372036854775807) := by
  refine ⟨hc, fun H enc W base spare held fuel cs x h => ?_⟩
  obtain ⟨n, rfl, rfl, hw⟩ := DataW.trod_string ht h
  exact ⟨n, rfl, hw⟩

theorem list_of {α : Type} (R : Nat → α → Prop) : ∀ (n : Nat), (∀ i, i < n → ∃ p, R i p) → ∃ ps : List α, ps.length = n ∧ ∀ i p, ps[i]? = some p → R i p
  | 0, _ => ⟨[], rfl, fun i p h => by simp at h⟩
  | n + 1, h => by
    obtain ⟨ps, hl, hp⟩ := list_of R n (fun i hi => h i (by omega))
    obtain ⟨q, hq⟩ := h n (by omega)
    refine ⟨ps ++ [q], by simp [hl], fun i p hi => ?_⟩
    rcases Nat.lt_or_ge i ps.length with hlt | hge
    · rw [List.getElem?_append_left hlt] at hi
      exact hp i p hi
    · rw [List.getElem?_append_right hge] at hi
      have h0 : i - ps.length = 0 := by
        have := (List.getElem?_eq_some_iff.1 hi).1
        simp at this
        omega
      rw [h0] at hi
      simp at hi
      subst hi
      have : i = n := by omega
      subst this
      exact hq

theorem opn_slice {α : Type} {d : Kd α} {Q : α → Prop} (e' : Nat) (ht : P.underlying t = some (.slice e)) (hc : P.cellsOf t = 1) (he : Opn P e d Q) : Opn P t (Kd.slice e' d) (fun l => l.length ≤ 9223372036854775807 ∧ ∀ x ∈ l, Q x) := by
  refine ⟨hc, fun H enc W base spare held fuel cs x h => ?_⟩
  rcases DataW.trod_slice ht h with ⟨rfl, _⟩ | ⟨a, len, cap, elems, rest, n, _, rfl, rfl, hb, hl, hm, hlen, hel, _⟩
  · exact ⟨[], ⟨none, 0, rfl, Nat.le_refl _, rfl, by simp, fun h => absurd h (by simp)⟩, by simp, fun x hx => by cases hx⟩
  · have hm' : len ≤ 9223372036854775807 := Nat.le_trans hl hm
    obtain ⟨ps, hpl, hps⟩ := list_of (fun i p => Q p ∧ ∃ c, c.length = d.sz ∧ d.K W p c ∧ ∀ j u, c[j]? = some u → W.cell? (a.add (i * d.sz + j)) = some u) len (fun i hi => by
      have hb' := hel i hi
      rw [List.getElem?_eq_getElem (by omega), Option.bind_eq_some_iff] at hb'
      obtain ⟨c, hcs, htr⟩ := hb'
      obtain ⟨p, hK, hQ⟩ := he.2 H enc W base spare held n c _ htr
      rw [he.1] at hcs
      obtain ⟨_, hcl, hce⟩ := World.cells?_some hcs
      refine ⟨p, hQ, c, hcl, hK, fun j u hj => ?_⟩
      have hjl : j < d.sz := by have := (List.getElem?_eq_some_iff.1 hj).1; omega
      have := hce j hjl
      rw [hj] at this
      rw [← this, Addr.add_add])
    refine ⟨ps, ⟨some a, cap, by rw [hpl], by omega, rfl, by omega, fun _ => ⟨a, rfl, fun j p hj => (hps j p hj).2⟩⟩, by omega, fun x hx => ?_⟩
    obtain ⟨i, hi⟩ := List.getElem?_of_mem hx
    exact (hps i x hi).1

/-- The fields from one on, in line. -/
def OpnF (P : Program) (fs : List Field) (o : Nat) {α : Type} (d : Kd α) (Q : α → Prop) : Prop :=
  (∀ (H : Type) (enc : TypeId × Value → H) (W : World) (base : Nat) (spare : Nat → Bool) (held : Bool) (n : Nat) (cs : List Value), cs.length = o + d.sz →
    (∀ (i : Nat) (f : Field), fs[i]? = some f → (DataW.trod enc P W base spare held n f.type ((cs.drop f.offset).take (P.cellsOf f.type))).isSome) → ∃ a, d.K W a (cs.drop o) ∧ Q a)
theorem opnF_one {α : Type} {d : Kd α} {Q : α → Prop} {f : Field} {o : Nat} (he : Opn P f.type d Q) (ho : f.offset = o) : OpnF P [f] o d Q := by
  intro H enc W base spare held n cs hl h
  obtain ⟨x, hx⟩ := Option.isSome_iff_exists.1 (h 0 f rfl)
  rw [he.1, ho, List.take_of_length_le (by simp; omega)] at hx
  exact he.2 H enc W base spare held n _ x hx
theorem opnF_cons {α β : Type} {d : Kd α} {d2 : Kd β} {Q : α → Prop} {Q2 : β → Prop} {f : Field} {fs : List Field} {o : Nat} (he : Opn P f.type d Q) (ho : f.offset = o) (hr : OpnF P fs (o + d.sz) d2 Q2) :
    OpnF P (f :: fs) o (Kd.pair d d2) (fun x => Q x.1 ∧ Q2 x.2) := by
  intro H enc W base spare held n cs hl h
  have hl' : cs.length = o + (d.sz + d2.sz) := hl
  obtain ⟨x, hx⟩ := Option.isSome_iff_exists.1 (h 0 f rfl)
  rw [he.1, ho] at hx
  obtain ⟨a, ha, hq⟩ := he.2 H enc W base spare held n _ x hx
  obtain ⟨b, hb, hq2⟩ := hr H enc W base spare held n cs (by omega) (fun i g hi => h (i + 1) g (by simpa using hi))
  refine ⟨(a, b), ⟨(cs.drop o).take d.sz, cs.drop (o + d.sz), ?_, ha, hb⟩, hq, hq2⟩
  rw [← List.drop_drop, List.take_append_drop]
theorem opn_struct {α : Type} {d : Kd α} {Q : α → Prop} {fs : Array Field} (ht : P.underlying t = some (.struct fs)) (hc : P.cellsOf t = d.sz) (hf : OpnF P fs.toList 0 d Q) : Opn P t d Q := by
  refine ⟨hc, fun H enc W base spare held fuel cs x h => ?_⟩
  obtain ⟨xs, n, _, _, hl, hxs, he⟩ := DataW.trod_struct ht h
  rw [hc] at hl
  have := hf H enc W base spare held n cs (by omega) (fun i f hi => by
    have hi' : fs[i]? = some f := by simpa using hi
    rw [he i f hi']
    have : i < fs.size := (Array.getElem?_eq_some_iff.1 hi').1
    rw [List.getElem?_eq_getElem (by omega)]
    rfl)
  rwa [List.drop_zero] at this
/-- An array of two. -/
theorem opn_iso {α β : Type} {d : Kd α} {Q : α → Prop} (f : β → α) (g : α → β) (hfg : ∀ a, f (g a) = a) (h : Opn P t d Q) : Opn P t (Kd.iso d f) (fun b => Q (f b)) := by
  refine ⟨h.1, fun H enc W base spare held fuel cs x ht => ?_⟩
  obtain ⟨a, ha, hq⟩ := h.2 H enc W base spare held fuel cs x ht
  exact ⟨g a, by show d.K W (f (g a)) cs; rw [hfg]; exact ha, by show Q (f (g a)); rw [hfg]; exact hq⟩
/-- A slice among the arguments. -/
theorem opn_arg {α : Type} {d : Kd α} {Q : List α → Prop} {e' : Nat} (h : Opn P t (Kd.slice e' d) Q) {H : Type} {enc : TypeId × Value → H} {W : World} {base : Nat} {spare : Nat → Bool} {held : Bool} {A : Option Addr} {len cap : Nat} {x : DataW H} {p : List MemPlace}
    (ht : DataW.Trod enc P W base spare held t (.slice A len cap) x p) : ∃ a, d.C W A len a ∧ Q a := by
  obtain ⟨m, hm⟩ := ht
  obtain ⟨a, ⟨A', c, he, _, hC⟩, hQ⟩ := h.2 _ _ _ _ _ _ _ _ _ hm
  simp [Value.cells] at he
  obtain ⟨rfl, rfl, rfl⟩ := he
  exact ⟨a, hC, hQ⟩
end
end Go.Proofs.Ytljfagagopaidaa
