/- Laws on the blocks of a map from int to files, as a list in the order of laying; no program text of the seat is walked here. -/
import Derived.Test.YtljfagagopaidaaProg
import Derived.WalkKit
import Derived.WalkSpells
import Derived.Maps.RangeRun
import Derived.Maps.OwnSet
namespace Go.Proofs.Ytljfagagopaidaa
open Go.RowKit
open Go.ChangeMaps (setBlock)
set_option linter.unusedSimpArgs false
set_option linter.unusedVariables false

/-- A file: its number, its bytes, how many are synced. -/
structure Fl where
  k : Int
  s : ByteArray
  n : Int

def Fl.val (x : Fl) : Value := .agg #[.string x.s, .int .i64 x.n]
def zeroVal : Value := .agg #[.string ⟨#[]⟩, .int .i64 0]
def Fl.pair (x : Fl) : Value × Value := (.int .i64 x.k, x.val)

/-- Entries are a list of files. -/
structure EntriesAre (es : Array MapEntry) (clock : Nat) (l : List Fl) : Prop where
  same : es.toList.map (fun e => (e.key, e.val)) = l.map Fl.pair
  young : ∀ x ∈ es.toList, x.born < clock
  apart : (es.toList.map (·.born)).Nodup
  keys : (l.map Fl.k).Nodup
  small : es.size < maxLen

/-- Block m is a map that holds the files of l, in the order in which they were laid. -/
def MapIs (w : World) (m : Nat) (l : List Fl) : Prop := ∃ es clock, w.heap[m]? = some (.map es clock) ∧ EntriesAre es clock l

def look (l : List Fl) (k : Int) : Option Fl := l.find? (fun x => x.k == k)
/-- m[x.k] = x -/
def lay (l : List Fl) (x : Fl) : List Fl := if l.any (fun y => y.k == x.k) then l.map (fun y => if y.k == x.k then x else y) else l ++ [x]
def drop (l : List Fl) (k : Int) : List Fl := l.filter (fun y => y.k != k)

theorem EntriesAre.length {es : Array MapEntry} {clock : Nat} {l : List Fl} (h : EntriesAre es clock l) : es.size = l.length := by
  have := congrArg List.length h.same
  simpa using this

theorem findNow_files (k : Int) : ∀ (es : List MapEntry) (l : List Fl) (i : Nat), es.map (fun e => (e.key, e.val)) = l.map Fl.pair →
    Instr.findNow (.int .i64) (.int .i64 k) es i = some ((l.findIdx? (fun x => x.k == k)).bind fun j => (l[j]?).map fun x => (i + j, x.val))
  | [], [], i, _ => by simp [Instr.findNow]
  | [], _ :: _, i, h => by simp at h
  | _ :: _, [], i, h => by simp at h
  | e :: es, x :: l, i, h => by
    simp only [List.map_cons, List.cons.injEq, Fl.pair, Prod.mk.injEq] at h
    obtain ⟨⟨hk, hv⟩, ht⟩ := h
    have ih := findNow_files k es l (i + 1) ht
    by_cases hx : x.k = k
    · subst hx
      simp [Instr.findNow, Instr.sameNow, hk, hv, List.findIdx?_cons]
    · have hx' : (x.k == k) = false := by simpa using hx
      have hx2 : (k == x.k) = false := by rw [beq_eq_false_iff_ne]; exact fun e => hx e.symm
      simp only [Instr.findNow, Instr.sameNow, hk, if_true, hx2, List.findIdx?_cons, hx', ih, Bool.false_eq_true, if_false]
      cases l.findIdx? (fun y => y.k == k) with
      | none => simp
      | some j => simp [Nat.add_assoc, Nat.add_comm 1 j]

theorem findIdx_look (l : List Fl) (k : Int) : ((l.findIdx? (fun x => x.k == k)).bind fun j => (l[j]?)) = look l k := by
  unfold look
  induction l with
  | nil => rfl
  | cons x l ih =>
    by_cases hx : x.k = k
    · simp [List.findIdx?_cons, hx]
    · have hx' : (x.k == k) = false := by simpa using hx
      simp only [List.findIdx?_cons, hx', Bool.false_eq_true, if_false, List.find?_cons]
      rw [← ih]
      cases l.findIdx? (fun y => y.k == k) <;> simp

section
variable {w : World} {m : Nat} {l : List Fl}

/-- m[k] -/
theorem MapIs.lookup (h : MapIs w m l) (k : Int) : (Instr.lookup 73 (.map (some m)) (.int .i64 k) false).run Try.prog w = .ok (((look l k).map Fl.val).getD zeroVal) w := by
  obtain ⟨es, clock, hb, H⟩ := h
  have hf := findNow_files k es.toList l 0 H.same
  have hl := findIdx_look l k
  have hz : (zeroValue 77).run Try.prog w = .ok zeroVal w := by kernel_rfl
  have hc : (Instr.checkKey es.isEmpty 10000 3 (.int .i64 k)).run Try.prog w = .ok () w := MapKept.run_checkKey (d := .int .i64) (k := .int .i64 k) Try.underlying3 (show MapKept.IsKey (.int .i64) (.int .i64 k) from rfl) _ _
  have hfk := MapKept.run_findKey (w := w) Try.underlying3 hf
  simp only [Instr.lookup, Sem.run_bind, run_underlying Try.underlying73, MapKept.run_getObj_map hb, Result.andThen_ok, hc, hfk, Sem.run_pure]
  cases hj : l.findIdx? (fun x => x.k == k) with
  | none =>
    simp only [hj, Option.bind_none] at hl ⊢
    simp [← hl, hz]
  | some j =>
    simp only [hj, Option.bind_some] at hl ⊢
    cases hx : l[j]? with
    | none => simp only [hx] at hl; simp [← hl, hz]
    | some x => simp only [hx] at hl; simp [← hl]

/-- v, ok := m[k] -/
theorem MapIs.lookup_ok (h : MapIs w m l) (k : Int) : (Instr.lookup 73 (.map (some m)) (.int .i64 k) true).run Try.prog w = .ok (.tuple #[((look l k).map Fl.val).getD zeroVal, .bool (look l k).isSome]) w := by
  obtain ⟨es, clock, hb, H⟩ := h
  have hf := findNow_files k es.toList l 0 H.same
  have hl := findIdx_look l k
  have hz : (zeroValue 77).run Try.prog w = .ok zeroVal w := by kernel_rfl
  have hc : (Instr.checkKey es.isEmpty 10000 3 (.int .i64 k)).run Try.prog w = .ok () w := MapKept.run_checkKey (d := .int .i64) (k := .int .i64 k) Try.underlying3 (show MapKept.IsKey (.int .i64) (.int .i64 k) from rfl) _ _
  have hfk := MapKept.run_findKey (w := w) Try.underlying3 hf
  simp only [Instr.lookup, Sem.run_bind, run_underlying Try.underlying73, MapKept.run_getObj_map hb, Result.andThen_ok, hc, hfk, Sem.run_pure]
  cases hj : l.findIdx? (fun x => x.k == k) with
  | none =>
    simp only [hj, Option.bind_none] at hl ⊢
    simp [← hl, hz]
  | some j =>
    simp only [hj, Option.bind_some] at hl ⊢
    cases hx : l[j]? with
    | none => simp only [hx] at hl; simp [← hl, hz]
    | some x => simp only [hx] at hl; simp [← hl]

theorem MapIs.lt (h : MapIs w m l) : m < w.heap.size := by
  obtain ⟨es, clock, hb, _⟩ := h
  exact (Array.getElem?_eq_some_iff.1 hb).1

/-- What a step that writes the map's block alone leaves. -/
structure Turned (w w' : World) (m : Nat) : Prop where
  os : w'.os = w.os
  tape : w'.tape = w.tape
  output : w'.output = w.output
  size : w'.heap.size = w.heap.size
  block : ∀ i, i ≠ m → w'.heap[i]? = w.heap[i]?

theorem Turned.setMap {es : Array MapEntry} {clock : Nat} {o' : Obj} (hb : w.heap[m]? = some (.map es clock)) : Turned w (setBlock w m o') m :=
  ⟨rfl, rfl, rfl, by simp [ChangeMaps.setBlock], fun i hi => ChangeMaps.heap_setBlock_other hb _ hi⟩

theorem lay_at (x : Fl) : ∀ (l : List Fl) (j : Nat), (l.map Fl.k).Nodup → l.findIdx? (fun y => y.k == x.k) = some j → lay l x = l.set j x
  | [], j, _, h => by simp at h
  | y :: l, j, hn, h => by
    simp only [List.map_cons, List.nodup_cons] at hn
    by_cases hy : y.k = x.k
    · have : (y.k == x.k) = true := by simpa using hy
      simp only [List.findIdx?_cons, this, if_true, Option.some.injEq] at h
      subst h
      have hr : l.map (fun z => if z.k == x.k then x else z) = l := by
        conv => rhs; rw [← List.map_id l]
        refine List.map_congr_left fun z hz => ?_
        have : z.k ≠ x.k := fun e => hn.1 (by rw [hy, ← e]; exact List.mem_map_of_mem hz)
        simp [this]
      simp only [lay, List.any_cons, this, Bool.true_or, if_true, List.map_cons, hr, List.set_cons_zero]
    · have hf : (y.k == x.k) = false := by simpa using hy
      simp only [List.findIdx?_cons, hf, Bool.false_eq_true, if_false, Option.map_eq_some_iff] at h
      obtain ⟨i, hi, rfl⟩ := h
      have ih := lay_at x l i hn.2 hi
      have ha : l.any (fun y => y.k == x.k) = true := by
        rw [List.any_eq_true]
        have hlt : i < l.length := (List.findIdx?_eq_some_iff_getElem.1 hi).1
        exact ⟨l[i], List.getElem_mem hlt, (List.findIdx?_eq_some_iff_getElem.1 hi).2.1⟩
      unfold lay at ih ⊢
      rw [if_pos ha] at ih
      rw [if_pos (by simp [hf, ha])]
      simp only [List.map_cons, hf, Bool.false_eq_true, if_false, ih, List.set_cons_succ]

theorem lay_new (x : Fl) (l : List Fl) (h : l.findIdx? (fun y => y.k == x.k) = none) : lay l x = l ++ [x] := by
  unfold lay
  rw [if_neg]
  rw [List.findIdx?_eq_none_iff] at h
  simp only [List.any_eq_true, not_exists, not_and]
  intro y hy
  simp [h y hy]

theorem drop_at (k : Int) : ∀ (l : List Fl) (j : Nat), (l.map Fl.k).Nodup → l.findIdx? (fun y => y.k == k) = some j → drop l k = l.eraseIdx j
  | [], j, _, h => by simp at h
  | y :: l, j, hn, h => by
    simp only [List.map_cons, List.nodup_cons] at hn
    by_cases hy : y.k = k
    · have : (y.k == k) = true := by simpa using hy
      simp only [List.findIdx?_cons, this, if_true, Option.some.injEq] at h
      subst h
      have hr : drop l k = l := List.filter_eq_self.2 fun z hz => by
        have : z.k ≠ k := fun e => hn.1 (by rw [hy, ← e]; exact List.mem_map_of_mem hz)
        simpa using this
      unfold drop at hr ⊢
      simp [hy, hr]
    · have hf : (y.k == k) = false := by simpa using hy
      simp only [List.findIdx?_cons, hf, Bool.false_eq_true, if_false, Option.map_eq_some_iff] at h
      obtain ⟨i, hi, rfl⟩ := h
      have ih := drop_at k l i hn.2 hi
      unfold drop at ih ⊢
      simp [hy, ih]

theorem drop_none (k : Int) (l : List Fl) (h : l.findIdx? (fun y => y.k == k) = none) : drop l k = l := by
  rw [List.findIdx?_eq_none_iff] at h
  exact List.filter_eq_self.2 fun z hz => by simpa using h z hz

theorem nodup_lay (x : Fl) (l : List Fl) (hn : (l.map Fl.k).Nodup) : ((lay l x).map Fl.k).Nodup := by
  unfold lay
  split
  · have : (l.map fun y => if y.k == x.k then x else y).map Fl.k = l.map Fl.k := by
      rw [List.map_map]
      refine List.map_congr_left fun z _ => ?_
      by_cases h : z.k = x.k <;> simp [h]
    rw [this]
    exact hn
  · rename_i h
    simp only [List.any_eq_true, not_exists, not_and] at h
    rw [List.map_append, List.nodup_append]
    refine ⟨hn, by simp, fun a ha b hb => ?_⟩
    simp only [List.map_cons, List.map_nil, List.mem_singleton] at hb
    subst hb
    obtain ⟨y, hy, rfl⟩ := List.mem_map.1 ha
    simpa using h y hy

theorem nodup_drop (k : Int) (l : List Fl) (hn : (l.map Fl.k).Nodup) : ((drop l k).map Fl.k).Nodup :=
  hn.sublist ((List.filter_sublist).map _)

/-- delete(m, k) -/
theorem MapIs.delete (h : MapIs w m l) (k : Int) (ty : TypeId) : ∃ w', (Builtin.delete_ #[73, 3] ty #[.map (some m), .int .i64 k]).run Try.prog w = .ok (.tuple #[]) w' ∧ MapIs w' m (drop l k) ∧ Turned w w' m := by
  obtain ⟨es, clock, hb, H⟩ := h
  have hf := findNow_files k es.toList l 0 H.same
  have hc : (Instr.checkKey es.isEmpty 10000 3 (.int .i64 k)).run Try.prog w = .ok () w := MapKept.run_checkKey (d := .int .i64) (k := .int .i64 k) Try.underlying3 (show MapKept.IsKey (.int .i64) (.int .i64 k) from rfl) _ _
  have hfk := MapKept.run_findKey (w := w) Try.underlying3 hf
  have hrun : ∀ o : Obj, (setObj m o).run Try.prog w = .ok () (setBlock w m o) := fun o => MapKept.run_setObj_map o hb
  cases hj : l.findIdx? (fun x => x.k == k) with
  | none =>
    refine ⟨setBlock w m (.map es clock), ?_, ⟨es, clock, ChangeMaps.heap_setBlock_same hb _, ?_⟩, Turned.setMap hb⟩
    · simp [Builtin.delete_, run_underlying Try.underlying73, MapKept.run_getObj_map hb, hc, hfk, hj, hrun]
    · rw [drop_none k l hj]; exact H
  | some j =>
    have hjl := (List.findIdx?_eq_some_iff_getElem.1 hj).1
    refine ⟨setBlock w m (.map (es.eraseIdxIfInBounds j) clock), ?_, ⟨es.eraseIdxIfInBounds j, clock, ChangeMaps.heap_setBlock_same hb _, ?_⟩, Turned.setMap hb⟩
    · simp [Builtin.delete_, run_underlying Try.underlying73, MapKept.run_getObj_map hb, hc, hfk, hj, hrun, List.getElem?_eq_getElem hjl]
    · have hsub : (es.eraseIdxIfInBounds j).toList = es.toList.eraseIdx j := Array.toList_eraseIdxIfInBounds
      refine ⟨?_, ?_, ?_, nodup_drop k l H.keys, ?_⟩
      · rw [hsub, drop_at k l j H.keys hj, ChangeMaps.map_eraseIdx, ChangeMaps.map_eraseIdx, H.same]
      · intro x hx
        rw [hsub] at hx
        exact H.young x ((List.eraseIdx_sublist _ _).subset hx)
      · rw [hsub]
        exact H.apart.sublist ((List.eraseIdx_sublist _ _).map _)
      · have := H.small
        have h2 : (es.eraseIdxIfInBounds j).size ≤ es.size := by
          rw [← Array.length_toList, hsub, ← Array.length_toList]
          exact List.length_eraseIdx_le _ _
        omega

theorem map_modify {α β : Type} (g : α → β) (f : α → α) (b : β) : ∀ (l : List α) (j : Nat), (∀ x, l[j]? = some x → g (f x) = b) → (l.modify j f).map g = (l.map g).set j b
  | [], j, _ => by cases j <;> simp
  | x :: l, 0, h => by simp [h x rfl]
  | x :: l, j + 1, h => by simp [map_modify g f b l j (fun y hy => h y (by simpa using hy))]

/-- m[x.k] = x -/
theorem MapIs.update (h : MapIs w m l) (x : Fl) (hl : l.length < 1048576) : ∃ w', (Instr.mapUpdate 73 (.map (some m)) (.int .i64 x.k) x.val).run Try.prog w = .ok () w' ∧ MapIs w' m (lay l x) ∧ Turned w w' m := by
  obtain ⟨es, clock, hb, H⟩ := h
  have hlen := H.length
  have hf := findNow_files x.k es.toList l 0 H.same
  have hc : (Instr.checkKey false 10000 3 (.int .i64 x.k)).run Try.prog w = .ok () w := MapKept.run_checkKey (d := .int .i64) (k := .int .i64 x.k) Try.underlying3 (show MapKept.IsKey (.int .i64) (.int .i64 x.k) from rfl) _ _
  have hks : (Instr.keyThatStays (.int .i64 x.k) (.int .i64 x.k)).run Try.prog w = .ok (.int .i64 x.k) w := MapKept.run_keyThatStays (d := .int .i64) (k := .int .i64 x.k) (show MapKept.IsKey (.int .i64) (.int .i64 x.k) from rfl)
  have hfk := MapKept.run_findKey (w := w) Try.underlying3 hf
  have hrun : ∀ o : Obj, (setObj m o).run Try.prog w = .ok () (setBlock w m o) := fun o => MapKept.run_setObj_map o hb
  cases hj : l.findIdx? (fun y => y.k == x.k) with
  | none =>
    refine ⟨setBlock w m (.map (es.push { key := .int .i64 x.k, val := x.val, born := clock }) (clock + 1)), ?_, ⟨es.push { key := .int .i64 x.k, val := x.val, born := clock }, clock + 1, ChangeMaps.heap_setBlock_same hb _, ?_⟩, Turned.setMap hb⟩
    · simp [Instr.mapUpdate, run_underlying Try.underlying73, MapKept.run_getObj_map hb, hc, hfk, hj, hrun]
    · rw [lay_new x l hj]
      refine ⟨?_, ?_, ?_, by rw [← lay_new x l hj]; exact nodup_lay x l H.keys, ?_⟩
      · simp [H.same, Fl.pair]
      · intro e he
        simp only [Array.toList_push, List.mem_append, List.mem_singleton] at he
        rcases he with he | rfl
        · have := H.young e he; omega
        · simp
      · simp only [Array.toList_push, List.map_append, List.map_cons, List.map_nil]
        rw [List.nodup_append]
        refine ⟨H.apart, by simp, fun a ha b hb => ?_⟩
        simp only [List.mem_singleton] at hb
        subst hb
        obtain ⟨e, he, rfl⟩ := List.mem_map.1 ha
        have := H.young e he
        omega
      · simp only [Array.size_push, maxLen]; omega
  | some j =>
    have hjl := (List.findIdx?_eq_some_iff_getElem.1 hj).1
    have hkj : (l[j]).k = x.k := by simpa using (List.findIdx?_eq_some_iff_getElem.1 hj).2.1
    have hje : j < es.size := by omega
    have hkey : (es[j]).key = .int .i64 x.k := by
      have h1 := congrArg (fun q => q[j]?) H.same
      simp only [List.getElem?_map, List.getElem?_eq_getElem hjl, Option.map_some, Array.getElem?_toList, Array.getElem?_eq_getElem hje, Option.some.injEq, Fl.pair, Prod.mk.injEq] at h1
      rw [h1.1, hkj]
    refine ⟨setBlock w m (.map (es.modify j fun e => { e with key := .int .i64 x.k, val := x.val }) clock), ?_, ⟨es.modify j fun e => { e with key := .int .i64 x.k, val := x.val }, clock, ChangeMaps.heap_setBlock_same hb _, ?_⟩, Turned.setMap hb⟩
    · simp [Instr.mapUpdate, run_underlying Try.underlying73, MapKept.run_getObj_map hb, hc, hfk, hj, hrun, List.getElem?_eq_getElem hjl, Array.getElem?_eq_getElem hje, hkey, hks]
    · have hml : (es.modify j fun e => { e with key := .int .i64 x.k, val := x.val }).toList = es.toList.modify j fun e => { e with key := .int .i64 x.k, val := x.val } := Array.toList_modify
      have hborn : (es.toList.modify j fun e => { e with key := .int .i64 x.k, val := x.val }).map (·.born) = es.toList.map (·.born) := by
        rw [map_modify (fun e : MapEntry => e.born) _ (es[j]).born _ _ (fun y hy => by
          rw [Array.getElem?_toList, Array.getElem?_eq_getElem hje] at hy
          exact (show y.born = es[j].born from congrArg MapEntry.born (Option.some.inj hy).symm))]
        apply List.ext_getElem?
        intro i
        by_cases hi : j = i
        · subst hi
          simp [hje]
        · simp [hi]
      refine ⟨?_, ?_, by rw [hml, hborn]; exact H.apart, nodup_lay x l H.keys, ?_⟩
      · rw [hml, map_modify (fun e : MapEntry => (e.key, e.val)) _ x.pair _ _ (fun y _ => rfl), lay_at x l j H.keys hj, H.same]
        apply List.ext_getElem?
        intro i
        by_cases hi : j = i
        · subst hi
          simp [hjl]
        · simp [hi]
      · intro e he
        rw [hml] at he
        have : e.born ∈ es.toList.map (·.born) := by rw [← hborn]; exact List.mem_map_of_mem he
        obtain ⟨e2, he2, h3⟩ := List.mem_map.1 this
        rw [← h3]
        exact H.young e2 he2
      · rw [Array.size_modify]; exact H.small

theorem MapIs.made (w : World) : MapIs (w.alloc (.map #[] 0)) w.heap.size [] :=
  ⟨#[], 0, (MapKept.heap_alloc w _).1, by simp, by simp, by simp, by simp, by simp [maxLen]⟩

theorem MapIs.of_block {w' : World} (h : MapIs w m l) (hb : w'.heap[m]? = w.heap[m]?) : MapIs w' m l := by
  obtain ⟨es, clock, h1, H⟩ := h
  exact ⟨es, clock, hb.trans h1, H⟩

end

end Go.Proofs.Ytljfagagopaidaa
