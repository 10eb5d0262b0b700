/- An argument's reading, opened as a kind, with the sizes of all that is read. -/
import Derived.Test.YtljfagagopaidaaOpn
import Derived.SizedLaws
namespace Go.Proofs.Ytljfagagopaidaa
open Go.RowKit Go.ChangeShapes Go.Proofs.YtljfagagopaidaaW.PrintWords
set_option linter.unusedSimpArgs false
set_option linter.unusedVariables false

/-- All that is read takes no more than the reach. -/
def Szd {H : Type} (P : Program) (t : TypeId) (x : DataW H) : Prop := ∀ n ∈ x.weights P t, n ≤ 140737488351232
def Opw (P : Program) (t : TypeId) {α : Type} (d : Kd α) (Q : α → Prop) : Prop :=
  P.cellsOf t = d.sz ∧ ∀ (H : Type) (enc : TypeId × Value → H) (W : World) (base : Nat) (spare : Nat → Bool) (held : Bool) (fuel : Nat) (cs : List Value) (x : DataW H × List MemPlace),
    DataW.trod enc P W base spare held fuel t cs = some x → Szd P t x.1 → ∃ a, d.K W a cs ∧ Q a

theorem weights_all {H : Type} {P : Program} {e : TypeId} : ∀ {l : List (DataW H)} {i : Nat} {d : DataW H}, l[i]? = some d → ∀ n ∈ d.weights P e, n ∈ DataW.weightsAll P e l
  | d0 :: l, 0, d, h, n, hn => by
    simp only [List.getElem?_cons_zero, Option.some.injEq] at h
    subst h
    simp only [DataW.weightsAll, List.mem_append]
    exact .inl hn
  | d0 :: l, i + 1, d, h, n, hn => by
    simp only [List.getElem?_cons_succ] at h
    simp only [DataW.weightsAll, List.mem_append]
    exact .inr (weights_all h n hn)
  | [], _, _, h, _, _ => by simp at h

section
variable {P : Program} {t e : TypeId}
theorem opw_of {α : Type} {d : Kd α} {Q : α → Prop} (h : Opn P t d Q) : Opw P t d Q := ⟨h.1, fun H enc W base spare held fuel cs x hx _ => h.2 H enc W base spare held fuel cs x hx⟩
theorem opw_string (ht : P.underlying t = some .string) (hc : P.cellsOf t = 1) : Opw P t Kd.string (fun s => s.size ≤ 140737488351232) := by
  refine ⟨hc, fun H enc W base spare held fuel cs x h hs => ?_⟩
  obtain ⟨n, rfl, rfl, hw⟩ := DataW.trod_string ht h
  refine ⟨n, rfl, ?_⟩
  have := hs n.data.toList.length (by simp [DataW.weights])
  simpa using this

theorem opw_slice {α : Type} {d : Kd α} {Q : α → Prop} (e' : Nat) (ht : P.underlying t = some (.slice e)) (hc : P.cellsOf t = 1) (he : Opw P e d Q) : Opw P t (Kd.slice e' d) (fun l => l.length * P.bytesOf e ≤ 140737488351232 ∧ ∀ x ∈ l, Q x) := by
  refine ⟨hc, fun H enc W base spare held fuel cs x h hs => ?_⟩
  rcases DataW.trod_slice ht h with ⟨rfl, _⟩ | ⟨a, len, cap, elems, rest, n, _, rfl, rfl, hb, hl, hm, hlen, hel, _⟩
  · exact ⟨[], ⟨none, 0, rfl, Nat.le_refl _, rfl, by simp, fun h => absurd h (by simp)⟩, by simp, fun x hx => by cases hx⟩
  · have hm' : len ≤ 9223372036854775807 := Nat.le_trans hl hm
    have hsz : (elems.length + rest.length) * P.bytesOf e ≤ 140737488351232 := by
      have := hs ((elems.length + rest.length) * P.bytesOf e) (by simp [DataW.weights, ht])
      exact this
    obtain ⟨ps, hpl, hps⟩ := list_of (fun i p => Q p ∧ ∃ c, c.length = d.sz ∧ d.K W p c ∧ ∀ j u, c[j]? = some u → W.cell? (a.add (i * d.sz + j)) = some u) len (fun i hi => by
      have hb' := hel i hi
      rw [List.getElem?_eq_getElem (by omega), Option.bind_eq_some_iff] at hb'
      obtain ⟨c, hcs, htr⟩ := hb'
      obtain ⟨p, hK, hQ⟩ := he.2 H enc W base spare held n c _ htr (fun q hq => hs q (by
        simp only [DataW.weights, ht, List.mem_cons, List.mem_append]
        refine .inr (.inl (weights_all (i := i) ?_ q hq))
        rw [List.getElem?_map, List.getElem?_eq_getElem (by omega)]
        rfl))
      rw [he.1] at hcs
      obtain ⟨_, hcl, hce⟩ := World.cells?_some hcs
      refine ⟨p, hQ, c, hcl, hK, fun j u hj => ?_⟩
      have hjl : j < d.sz := by have := (List.getElem?_eq_some_iff.1 hj).1; omega
      have := hce j hjl
      rw [hj] at this
      rw [← this, Addr.add_add])
    refine ⟨ps, ⟨some a, cap, by rw [hpl], by omega, rfl, by omega, fun _ => ⟨a, rfl, fun j p hj => (hps j p hj).2⟩⟩, ?_, fun x hx => ?_⟩
    · rw [hpl, ← hlen]
      exact Nat.le_trans (Nat.mul_le_mul_right _ (Nat.le_add_right _ _)) hsz
    · obtain ⟨i, hi⟩ := List.getElem?_of_mem hx
      exact (hps i x hi).1

/-- The fields from one on, in line. -/
def OpwF (P : Program) (fs : List Field) (o : Nat) {α : Type} (d : Kd α) (Q : α → Prop) : Prop :=
  (∀ (H : Type) (enc : TypeId × Value → H) (W : World) (base : Nat) (spare : Nat → Bool) (held : Bool) (n : Nat) (cs : List Value), cs.length = o + d.sz →
    (∀ (i : Nat) (f : Field), fs[i]? = some f → ∃ x, DataW.trod enc P W base spare held n f.type ((cs.drop f.offset).take (P.cellsOf f.type)) = some x ∧ Szd P f.type x.1) → ∃ a, d.K W a (cs.drop o) ∧ Q a)
theorem opwF_one {α : Type} {d : Kd α} {Q : α → Prop} {f : Field} {o : Nat} (he : Opw P f.type d Q) (ho : f.offset = o) : OpwF P [f] o d Q := by
  intro H enc W base spare held n cs hl h
  obtain ⟨x, hx, hs⟩ := h 0 f rfl
  rw [he.1, ho, List.take_of_length_le (by simp; omega)] at hx
  exact he.2 H enc W base spare held n _ x hx hs
theorem opwF_cons {α β : Type} {d : Kd α} {d2 : Kd β} {Q : α → Prop} {Q2 : β → Prop} {f : Field} {fs : List Field} {o : Nat} (he : Opw P f.type d Q) (ho : f.offset = o) (hr : OpwF P fs (o + d.sz) d2 Q2) :
    OpwF P (f :: fs) o (Kd.pair d d2) (fun x => Q x.1 ∧ Q2 x.2) := by
  intro H enc W base spare held n cs hl h
  have hl' : cs.length = o + (d.sz + d2.sz) := hl
  obtain ⟨x, hx, hs⟩ := h 0 f rfl
  rw [he.1, ho] at hx
  obtain ⟨a, ha, hq⟩ := he.2 H enc W base spare held n _ x hx hs
  obtain ⟨b, hb, hq2⟩ := hr H enc W base spare held n cs (by omega) (fun i g hi => h (i + 1) g (by simpa using hi))
  refine ⟨(a, b), ⟨(cs.drop o).take d.sz, cs.drop (o + d.sz), ?_, ha, hb⟩, hq, hq2⟩
  rw [← List.drop_drop, List.take_append_drop]
theorem opw_struct {α : Type} {d : Kd α} {Q : α → Prop} {fs : Array Field} (ht : P.underlying t = some (.struct fs)) (hc : P.cellsOf t = d.sz) (hf : OpwF P fs.toList 0 d Q) : Opw P t d Q := by
  refine ⟨hc, fun H enc W base spare held fuel cs x h hs => ?_⟩
  obtain ⟨xs, n, _, hx, hl, hxs, he⟩ := DataW.trod_struct ht h
  rw [hc] at hl
  have := hf H enc W base spare held n cs (by omega) (fun i f hi => by
    have hi' : fs[i]? = some f := by simpa using hi
    have hlt : i < fs.size := (Array.getElem?_eq_some_iff.1 hi').1
    rw [he i f hi']
    refine ⟨xs[i], List.getElem?_eq_getElem (by omega), fun q hq => hs q ?_⟩
    rw [hx]
    simp only [DataW.weights, ht]
    refine DataW.weights_mem_each (j := i) (t := f.type) (d := xs[i].1) ?_ ?_ q hq
    · rw [List.getElem?_map, hi]; rfl
    · rw [List.getElem?_map, List.getElem?_eq_getElem (by omega)]; rfl)
  rwa [List.drop_zero] at this
/-- A slice among the arguments. -/
theorem opw_arg {α : Type} {d : Kd α} {Q : List α → Prop} {e' : Nat} (h : Opw P t (Kd.slice e' d) Q) {H : Type} {enc : TypeId × Value → H} {W : World} {base : Nat} {spare : Nat → Bool} {held : Bool} {A : Option Addr} {len cap : Nat} {x : DataW H} {p : List MemPlace}
    (ht : DataW.Trod enc P W base spare held t (.slice A len cap) x p) (hs : Szd P t x) : ∃ a, d.C W A len a ∧ len ≤ cap ∧ Q a := by
  obtain ⟨m, hm⟩ := ht
  obtain ⟨a, ⟨A', c, he, hl, hC⟩, hQ⟩ := h.2 _ _ _ _ _ _ _ _ _ hm hs
  simp [Value.cells] at he
  obtain ⟨rfl, rfl, rfl⟩ := he
  exact ⟨a, hC, hl, hQ⟩
theorem szd_arg {H : Type} {ts : List TypeId} {ds : List (DataW H)} (h : (DataW.weightsEach P ts ds).all (· ≤ reachBytes) = true) {j : Nat} {t : TypeId} {d : DataW H} (ht : ts[j]? = some t) (hd : ds[j]? = some d) : Szd P t d := by
  intro n hn
  have := List.all_eq_true.1 h n (DataW.weights_mem_each ht hd n hn)
  exact of_decide_eq_true (p := n ≤ reachBytes) this
end
end Go.Proofs.Ytljfagagopaidaa
