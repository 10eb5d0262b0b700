/- What a call keeps of the memory, and blocks of cells that are known whole; no program text of the seat is walked here. -/
import Derived.Test.YtljfagagopaidaaProg
import Derived.WalkKit
import Derived.WalkSpells
import Derived.Deep.Draws
import Derived.StillTailTactics
import Derived.Test.YtljfagagopaidaaWWords
import Derived.Maps.RangeRun
import Derived.Maps.OwnSet
import Derived.Maps.RangeWalk
import Derived.Maps.OwnOps
import Derived.BigQuiet
import Derived.Deep.QuietTactic
import Derived.Lib.Hide
import Derived.Deep.LoopGhost
import Derived.Deep.RegionHeld3
namespace Go.Proofs.Ytljfagagopaidaa
open Go.RowKit
set_option linter.unusedSimpArgs false
set_option linter.unusedVariables false

/-- All but the blocks of S are as they were; there may be new ones. -/
structure Fr (S : Nat → Prop) (w w' : World) : Prop where
  os : w'.os = w.os
  tape : w'.tape = w.tape
  output : w'.output = w.output
  size : w.heap.size ≤ w'.heap.size
  block : ∀ k, k < w.heap.size → ¬ S k → w'.heap[k]? = w.heap[k]?

section
variable {S S' : Nat → Prop} {w w' w2 : World}
theorem Fr.refl (S : Nat → Prop) (w : World) : Fr S w w := ⟨rfl, rfl, rfl, Nat.le_refl _, fun _ _ _ => rfl⟩
theorem Fr.none_ (h : Fr (fun _ => False) w w') : Fr S w w' := ⟨h.os, h.tape, h.output, h.size, fun k hk _ => h.block k hk id⟩
theorem Fr.trans (h : Fr S w w') (k : Fr S w' w2) : Fr S w w2 :=
  ⟨k.os.trans h.os, k.tape.trans h.tape, k.output.trans h.output, Nat.le_trans h.size k.size, fun i hi hn => (k.block i (Nat.lt_of_lt_of_le hi h.size) hn).trans (h.block i hi hn)⟩
theorem Fr.mono (h : Fr S w w') (hs : ∀ k, k < w.heap.size → S k → S' k) : Fr S' w w' := ⟨h.os, h.tape, h.output, h.size, fun k hk hn => h.block k hk fun hs' => hn (hs k hk hs')⟩
/-- The second step may also write what is new since the first. -/
theorem Fr.then_ (h : Fr S w w') (k : Fr S' w' w2) (hs : ∀ i, i < w.heap.size → S' i → S i) : Fr S w w2 :=
  ⟨k.os.trans h.os, k.tape.trans h.tape, k.output.trans h.output, Nat.le_trans h.size k.size, fun i hi hn => (k.block i (Nat.lt_of_lt_of_le hi h.size) fun h2 => hn (hs i hi h2)).trans (h.block i hi hn)⟩
theorem Fr.alloc (h : Fr S w w') (o : Obj) : Fr S w (w'.alloc o) := h.trans ⟨rfl, rfl, rfl, by simp, fun k hk _ => Below.heap_alloc _ _ _ hk⟩
theorem Fr.setCell (h : Fr S w w') {p : Addr} (hp : p.block < w.heap.size → S p.block) (u : Value) : Fr S w (w'.setCell p u) :=
  h.then_ (S' := fun k => k = p.block) ⟨rfl, rfl, rfl, by simp [World.setCell], fun k _ hn => Below.heap_setCell _ _ _ _ hn⟩ (fun i hi e => by subst e; exact hp hi)
theorem Fr.drew (h : Fr S w w') : Fr S w w'.drew := ⟨h.os, h.tape, h.output, h.size, h.block⟩
theorem Fr.drewN (h : Fr S w w') (n : Nat) : Fr S w (w'.drewN n) := ⟨h.os, h.tape, h.output, h.size, h.block⟩
theorem Fr.of_below (h : Below w.heap.size w w') : Fr S w w' := ⟨h.os, h.tape, h.output, h.size, fun k hk _ => h.block k hk⟩
theorem Fr.to_below (h : Fr S w w') (hs : ∀ k, k < w.heap.size → ¬ S k) : Below w.heap.size w w' := ⟨h.os, h.tape, h.output, h.size, fun k hk => h.block k hk (hs k hk)⟩
theorem Fr.lt (h : Fr S w w') {k : Nat} (hk : k < w.heap.size) : k < w'.heap.size := Nat.lt_of_lt_of_le hk h.size
theorem Fr.keep {o : Obj} {k : Nat} (h : Fr S w w') (hb : w.heap[k]? = some o) (hn : ¬ S k) : w'.heap[k]? = some o :=
  (h.block k (Array.getElem?_eq_some_iff.1 hb).1 hn).trans hb

theorem cell_blk {g : Nat} {cs : Array Value} {t : TypeId} {fr : Nat × Nat} (h : w.heap[g]? = some (.cells cs t fr)) (i : Nat) : w.cell? ⟨g, i, none⟩ = cs[i]? := by
  simp [World.cell?, h]
theorem free_blk {g : Nat} {cs : Array Value} {t : TypeId} (h : w.heap[g]? = some (.cells cs t (0, 0))) (i : Nat) : w.frozen? ⟨g, i, none⟩ = false := by
  simp [World.frozen?, h]
theorem set_blk {g : Nat} {cs : Array Value} {t : TypeId} {fr : Nat × Nat} (h : w.heap[g]? = some (.cells cs t fr)) (i : Nat) (v : Value) : (w.setCell ⟨g, i, none⟩ v).heap[g]? = some (.cells (cs.setIfInBounds i v) t fr) := by
  show (w.heap.modify g _)[g]? = _
  rw [Array.getElem?_modify, if_pos rfl, h]
  rfl
theorem set_other {g : Nat} {o : Obj} (h : w.heap[g]? = some o) {p : Addr} (hp : g ≠ p.block) (v : Value) : (w.setCell p v).heap[g]? = some o := (Below.heap_setCell _ _ _ _ hp).trans h
theorem alloc_old {g : Nat} {o : Obj} (h : w.heap[g]? = some o) (o' : Obj) : (w.alloc o').heap[g]? = some o :=
  (Below.heap_alloc _ _ _ (Array.getElem?_eq_some_iff.1 h).1).trans h
theorem drewN_blk {g : Nat} {o : Obj} (h : w.heap[g]? = some o) (n : Nat) : (w.drewN n).heap[g]? = some o := h
theorem lt_blk {g : Nat} {o : Obj} (h : w.heap[g]? = some o) : g < w.heap.size := (Array.getElem?_eq_some_iff.1 h).1
end

/-- A region whose order is open, all operations but the last ones of which only read: the world by its name. -/
theorem wp_tail {P : Program} {id : Nat} {Q : Exit → Act → World → Prop} {a : Act} {w : World} {l : List Oper} (n : Nat) (hm : P.follows .mixedOrders = true) (hB : Region.lexTailB .any l.toArray n = true)
    (h : wpStill P l.toArray w.drew (fun a' => wpList P l.toArray Q (l.drop n) a' w.drew) (l.take n) a) : (Code.region id l.toArray true).wp P Q a w := wp_region_still_tail n hm hB h

end Go.Proofs.Ytljfagagopaidaa

/- Rows that are read, kept by what a call keeps. -/
namespace Go.Proofs.Ytljfagagopaidaa
open Go.RowKit Go.Proofs.YtljfagagopaidaaW.PrintWords
set_option linter.unusedSimpArgs false
set_option linter.unusedVariables false

theorem block_add (a : Addr) (j : Nat) : (a.add j).block = a.block := by unfold Addr.add; split <;> rfl

theorem Fr.cell {S : Nat → Prop} {w w' : World} (k : Fr S w w') {a : Addr} {v : Value} (h : w.cell? a = some v) (hn : ¬ S a.block) : w'.cell? a = some v :=
  (World.cell?_of_block (w := w) (k.block a.block (World.block_lt_of_cell? w a h) hn)).trans h

theorem C_fr {α : Type} {d : Kd α} (hflat : ∀ w w' x cs, d.K w x cs → d.K w' x cs) {S : Nat → Prop} {w w' : World} {A : Option Addr} {n : Nat} {xs : List α} (h : d.C w A n xs) (k : Fr S w w') (hA : ∀ a, A = some a → ¬ S a.block) : d.C w' A n xs := by
  refine ⟨h.1, h.2.1, fun hn => ?_⟩
  obtain ⟨ad, rfl, hc⟩ := h.2.2 hn
  refine ⟨ad, rfl, fun j p hj => ?_⟩
  obtain ⟨c, hl, hK, hcell⟩ := hc j p hj
  exact ⟨c, hl, hflat _ _ _ _ hK, fun i u hu => k.cell (hcell i u hu) (by rw [block_add]; exact hA _ rfl)⟩

theorem flat_int (k : IntKind) : ∀ (w w' : World) (x : Int) (cs : List Value), (Kd.int k).K w x cs → (Kd.int k).K w' x cs := fun _ _ _ _ h => h
theorem flat_string : ∀ (w w' : World) (x : ByteArray) (cs : List Value), Kd.string.K w x cs → Kd.string.K w' x cs := fun _ _ _ _ h => h
theorem flat_bool : ∀ (w w' : World) (x : Bool) (cs : List Value), Kd.bool.K w x cs → Kd.bool.K w' x cs := fun _ _ _ _ h => h

end Go.Proofs.Ytljfagagopaidaa

/- Laws on the blocks of a map from int to files, as a list in the order of laying; no program text of the seat is walked here. -/
namespace Go.Proofs.Ytljfagagopaidaa
open Go.RowKit
open Go.ChangeMaps (setBlock)
set_option linter.unusedSimpArgs false
set_option linter.unusedVariables false

/-- A file: its number, its bytes, how many are synced. -/
structure Fl where
  k : Int
  s : ByteArray
  n : Int

def Fl.val (x : Fl) : Value := .agg #[.string x.s, .int .i64 x.n]
def zeroVal : Value := .agg #[.string ⟨#[]⟩, .int .i64 0]
def Fl.pair (x : Fl) : Value × Value := (.int .i64 x.k, x.val)

/-- Entries are a list of files. -/
structure EntriesAre (es : Array MapEntry) (clock : Nat) (l : List Fl) : Prop where
  same : es.toList.map (fun e => (e.key, e.val)) = l.map Fl.pair
  young : ∀ x ∈ es.toList, x.born < clock
  apart : (es.toList.map (·.born)).Nodup
  keys : (l.map Fl.k).Nodup
  small : es.size < maxLen

/-- Block m is a map that holds the files of l, in the order in which they were laid. -/
def MapIs (w : World) (m : Nat) (l : List Fl) : Prop := ∃ es clock, w.heap[m]? = some (.map es clock) ∧ EntriesAre es clock l

def look (l : List Fl) (k : Int) : Option Fl := l.find? (fun x => x.k == k)
/-- m[x.k] = x -/
def lay (l : List Fl) (x : Fl) : List Fl := if l.any (fun y => y.k == x.k) then l.map (fun y => if y.k == x.k then x else y) else l ++ [x]
def drop (l : List Fl) (k : Int) : List Fl := l.filter (fun y => y.k != k)

theorem EntriesAre.length {es : Array MapEntry} {clock : Nat} {l : List Fl} (h : EntriesAre es clock l) : es.size = l.length := by
  have := congrArg List.length h.same
  simpa using this

theorem findNow_files (k : Int) : ∀ (es : List MapEntry) (l : List Fl) (i : Nat), es.map (fun e => (e.key, e.val)) = l.map Fl.pair →
    Instr.findNow (.int .i64) (.int .i64 k) es i = some ((l.findIdx? (fun x => x.k == k)).bind fun j => (l[j]?).map fun x => (i + j, x.val))
  | [], [], i, _ => by simp [Instr.findNow]
  | [], _ :: _, i, h => by simp at h
  | _ :: _, [], i, h => by simp at h
  | e :: es, x :: l, i, h => by
    simp only [List.map_cons, List.cons.injEq, Fl.pair, Prod.mk.injEq] at h
    obtain ⟨⟨hk, hv⟩, ht⟩ := h
    have ih := findNow_files k es l (i + 1) ht
    by_cases hx : x.k = k
    · subst hx
      simp [Instr.findNow, Instr.sameNow, hk, hv, List.findIdx?_cons]
    · have hx' : (x.k == k) = false := by simpa using hx
      have hx2 : (k == x.k) = false := by rw [beq_eq_false_iff_ne]; exact fun e => hx e.symm
      simp only [Instr.findNow, Instr.sameNow, hk, if_true, hx2, List.findIdx?_cons, hx', ih, Bool.false_eq_true, if_false]
      cases l.findIdx? (fun y => y.k == k) with
      | none => simp
      | some j => simp [Nat.add_assoc, Nat.add_comm 1 j]

theorem findIdx_look (l : List Fl) (k : Int) : ((l.findIdx? (fun x => x.k == k)).bind fun j => (l[j]?)) = look l k := by
  unfold look
  induction l with
  | nil => rfl
  | cons x l ih =>
    by_cases hx : x.k = k
    · simp [List.findIdx?_cons, hx]
    · have hx' : (x.k == k) = false := by simpa using hx
      simp only [List.findIdx?_cons, hx', Bool.false_eq_true, if_false, List.find?_cons]
      rw [← ih]
      cases l.findIdx? (fun y => y.k == k) <;> simp

section
variable {w : World} {m : Nat} {l : List Fl}

/-- m[k] -/
theorem MapIs.lookup (h : MapIs w m l) (k : Int) : (Instr.lookup 73 (.map (some m)) (.int .i64 k) false).run Try.prog w = .ok (((look l k).map Fl.val).getD zeroVal) w := by
  obtain ⟨es, clock, hb, H⟩ := h
  have hf := findNow_files k es.toList l 0 H.same
  have hl := findIdx_look l k
  have hz : (zeroValue 77).run Try.prog w = .ok zeroVal w := by kernel_rfl
  have hc : (Instr.checkKey es.isEmpty 10000 3 (.int .i64 k)).run Try.prog w = .ok () w := MapKept.run_checkKey (d := .int .i64) (k := .int .i64 k) Try.underlying3 (show MapKept.IsKey (.int .i64) (.int .i64 k) from rfl) _ _
  have hfk := MapKept.run_findKey (w := w) Try.underlying3 hf
  simp only [Instr.lookup, Sem.run_bind, run_underlying Try.underlying73, MapKept.run_getObj_map hb, Result.andThen_ok, hc, hfk, Sem.run_pure]
  cases hj : l.findIdx? (fun x => x.k == k) with
  | none =>
    simp only [hj, Option.bind_none] at hl ⊢
    simp [← hl, hz]
  | some j =>
    simp only [hj, Option.bind_some] at hl ⊢
    cases hx : l[j]? with
    | none => simp only [hx] at hl; simp [← hl, hz]
    | some x => simp only [hx] at hl; simp [← hl]

/-- v, ok := m[k] -/
theorem MapIs.lookup_ok (h : MapIs w m l) (k : Int) : (Instr.lookup 73 (.map (some m)) (.int .i64 k) true).run Try.prog w = .ok (.tuple #[((look l k).map Fl.val).getD zeroVal, .bool (look l k).isSome]) w := by
  obtain ⟨es, clock, hb, H⟩ := h
  have hf := findNow_files k es.toList l 0 H.same
  have hl := findIdx_look l k
  have hz : (zeroValue 77).run Try.prog w = .ok zeroVal w := by kernel_rfl
  have hc : (Instr.checkKey es.isEmpty 10000 3 (.int .i64 k)).run Try.prog w = .ok () w := MapKept.run_checkKey (d := .int .i64) (k := .int .i64 k) Try.underlying3 (show MapKept.IsKey (.int .i64) (.int .i64 k) from rfl) _ _
  have hfk := MapKept.run_findKey (w := w) Try.underlying3 hf
  simp only [Instr.lookup, Sem.run_bind, run_underlying Try.underlying73, MapKept.run_getObj_map hb, Result.andThen_ok, hc, hfk, Sem.run_pure]
  cases hj : l.findIdx? (fun x => x.k == k) with
  | none =>
    simp only [hj, Option.bind_none] at hl ⊢
    simp [← hl, hz]
  | some j =>
    simp only [hj, Option.bind_some] at hl ⊢
    cases hx : l[j]? with
    | none => simp only [hx] at hl; simp [← hl, hz]
    | some x => simp only [hx] at hl; simp [← hl]

theorem MapIs.lt (h : MapIs w m l) : m < w.heap.size := by
  obtain ⟨es, clock, hb, _⟩ := h
  exact (Array.getElem?_eq_some_iff.1 hb).1

/-- What a step that writes the map's block alone leaves. -/
structure Turned (w w' : World) (m : Nat) : Prop where
  os : w'.os = w.os
  tape : w'.tape = w.tape
  output : w'.output = w.output
  size : w'.heap.size = w.heap.size
  block : ∀ i, i ≠ m → w'.heap[i]? = w.heap[i]?

theorem Turned.setMap {es : Array MapEntry} {clock : Nat} {o' : Obj} (hb : w.heap[m]? = some (.map es clock)) : Turned w (setBlock w m o') m :=
  ⟨rfl, rfl, rfl, by simp [ChangeMaps.setBlock], fun i hi => ChangeMaps.heap_setBlock_other hb _ hi⟩

theorem lay_at (x : Fl) : ∀ (l : List Fl) (j : Nat), (l.map Fl.k).Nodup → l.findIdx? (fun y => y.k == x.k) = some j → lay l x = l.set j x
  | [], j, _, h => by simp at h
  | y :: l, j, hn, h => by
    simp only [List.map_cons, List.nodup_cons] at hn
    by_cases hy : y.k = x.k
    · have : (y.k == x.k) = true := by simpa using hy
      simp only [List.findIdx?_cons, this, if_true, Option.some.injEq] at h
      subst h
      have hr : l.map (fun z => if z.k == x.k then x else z) = l := by
        conv => rhs; rw [← List.map_id l]
        refine List.map_congr_left fun z hz => ?_
        have : z.k ≠ x.k := fun e => hn.1 (by rw [hy, ← e]; exact List.mem_map_of_mem hz)
        simp [this]
      simp only [lay, List.any_cons, this, Bool.true_or, if_true, List.map_cons, hr, List.set_cons_zero]
    · have hf : (y.k == x.k) = false := by simpa using hy
      simp only [List.findIdx?_cons, hf, Bool.false_eq_true, if_false, Option.map_eq_some_iff] at h
      obtain ⟨i, hi, rfl⟩ := h
      have ih := lay_at x l i hn.2 hi
      have ha : l.any (fun y => y.k == x.k) = true := by
        rw [List.any_eq_true]
        have hlt : i < l.length := (List.findIdx?_eq_some_iff_getElem.1 hi).1
        exact ⟨l[i], List.getElem_mem hlt, (List.findIdx?_eq_some_iff_getElem.1 hi).2.1⟩
      unfold lay at ih ⊢
      rw [if_pos ha] at ih
      rw [if_pos (by simp [hf, ha])]
      simp only [List.map_cons, hf, Bool.false_eq_true, if_false, ih, List.set_cons_succ]

theorem lay_new (x : Fl) (l : List Fl) (h : l.findIdx? (fun y => y.k == x.k) = none) : lay l x = l ++ [x] := by
  unfold lay
  rw [if_neg]
  rw [List.findIdx?_eq_none_iff] at h
  simp only [List.any_eq_true, not_exists, not_and]
  intro y hy
  simp [h y hy]

theorem drop_at (k : Int) : ∀ (l : List Fl) (j : Nat), (l.map Fl.k).Nodup → l.findIdx? (fun y => y.k == k) = some j → drop l k = l.eraseIdx j
  | [], j, _, h => by simp at h
  | y :: l, j, hn, h => by
    simp only [List.map_cons, List.nodup_cons] at hn
    by_cases hy : y.k = k
    · have : (y.k == k) = true := by simpa using hy
      simp only [List.findIdx?_cons, this, if_true, Option.some.injEq] at h
      subst h
      have hr : drop l k = l := List.filter_eq_self.2 fun z hz => by
        have : z.k ≠ k := fun e => hn.1 (by rw [hy, ← e]; exact List.mem_map_of_mem hz)
        simpa using this
      unfold drop at hr ⊢
      simp [hy, hr]
    · have hf : (y.k == k) = false := by simpa using hy
      simp only [List.findIdx?_cons, hf, Bool.false_eq_true, if_false, Option.map_eq_some_iff] at h
      obtain ⟨i, hi, rfl⟩ := h
      have ih := drop_at k l i hn.2 hi
      unfold drop at ih ⊢
      simp [hy, ih]

theorem drop_none (k : Int) (l : List Fl) (h : l.findIdx? (fun y => y.k == k) = none) : drop l k = l := by
  rw [List.findIdx?_eq_none_iff] at h
  exact List.filter_eq_self.2 fun z hz => by simpa using h z hz

theorem nodup_lay (x : Fl) (l : List Fl) (hn : (l.map Fl.k).Nodup) : ((lay l x).map Fl.k).Nodup := by
  unfold lay
  split
  · have : (l.map fun y => if y.k == x.k then x else y).map Fl.k = l.map Fl.k := by
      rw [List.map_map]
      refine List.map_congr_left fun z _ => ?_
      by_cases h : z.k = x.k <;> simp [h]
    rw [this]
    exact hn
  · rename_i h
    simp only [List.any_eq_true, not_exists, not_and] at h
    rw [List.map_append, List.nodup_append]
    refine ⟨hn, by simp, fun a ha b hb => ?_⟩
    simp only [List.map_cons, List.map_nil, List.mem_singleton] at hb
    subst hb
    obtain ⟨y, hy, rfl⟩ := List.mem_map.1 ha
    simpa using h y hy

theorem nodup_drop (k : Int) (l : List Fl) (hn : (l.map Fl.k).Nodup) : ((drop l k).map Fl.k).Nodup :=
  hn.sublist ((List.filter_sublist).map _)

/-- delete(m, k) -/
theorem MapIs.delete (h : MapIs w m l) (k : Int) (ty : TypeId) : ∃ w', (Builtin.delete_ #[73, 3] ty #[.map (some m), .int .i64 k]).run Try.prog w = .ok (.tuple #[]) w' ∧ MapIs w' m (drop l k) ∧ Turned w w' m := by
  obtain ⟨es, clock, hb, H⟩ := h
  have hf := findNow_files k es.toList l 0 H.same
  have hc : (Instr.checkKey es.isEmpty 10000 3 (.int .i64 k)).run Try.prog w = .ok () w := MapKept.run_checkKey (d := .int .i64) (k := .int .i64 k) Try.underlying3 (show MapKept.IsKey (.int .i64) (.int .i64 k) from rfl) _ _
  have hfk := MapKept.run_findKey (w := w) Try.underlying3 hf
  have hrun : ∀ o : Obj, (setObj m o).run Try.prog w = .ok () (setBlock w m o) := fun o => MapKept.run_setObj_map o hb
  cases hj : l.findIdx? (fun x => x.k == k) with
  | none =>
    refine ⟨setBlock w m (.map es clock), ?_, ⟨es, clock, ChangeMaps.heap_setBlock_same hb _, ?_⟩, Turned.setMap hb⟩
    · simp [Builtin.delete_, run_underlying Try.underlying73, MapKept.run_getObj_map hb, hc, hfk, hj, hrun]
    · rw [drop_none k l hj]; exact H
  | some j =>
    have hjl := (List.findIdx?_eq_some_iff_getElem.1 hj).1
    refine ⟨setBlock w m (.map (es.eraseIdxIfInBounds j) clock), ?_, ⟨es.eraseIdxIfInBounds j, clock, ChangeMaps.heap_setBlock_same hb _, ?_⟩, Turned.setMap hb⟩
    · simp [Builtin.delete_, run_underlying Try.underlying73, MapKept.run_getObj_map hb, hc, hfk, hj, hrun, List.getElem?_eq_getElem hjl]
    · have hsub : (es.eraseIdxIfInBounds j).toList = es.toList.eraseIdx j := Array.toList_eraseIdxIfInBounds
      refine ⟨?_, ?_, ?_, nodup_drop k l H.keys, ?_⟩
      · rw [hsub, drop_at k l j H.keys hj, ChangeMaps.map_eraseIdx, ChangeMaps.map_eraseIdx, H.same]
      · intro x hx
        rw [hsub] at hx
        exact H.young x ((List.eraseIdx_sublist _ _).subset hx)
      · rw [hsub]
        exact H.apart.sublist ((List.eraseIdx_sublist _ _).map _)
      · have := H.small
        have h2 : (es.eraseIdxIfInBounds j).size ≤ es.size := by
          rw [← Array.length_toList, hsub, ← Array.length_toList]
          exact List.length_eraseIdx_le _ _
        omega

theorem map_modify {α β : Type} (g : α → β) (f : α → α) (b : β) : ∀ (l : List α) (j : Nat), (∀ x, l[j]? = some x → g (f x) = b) → (l.modify j f).map g = (l.map g).set j b
  | [], j, _ => by cases j <;> simp
  | x :: l, 0, h => by simp [h x rfl]
  | x :: l, j + 1, h => by simp [map_modify g f b l j (fun y hy => h y (by simpa using hy))]

/-- m[x.k] = x -/
theorem MapIs.update (h : MapIs w m l) (x : Fl) (hl : l.length < 1048576) : ∃ w', (Instr.mapUpdate 73 (.map (some m)) (.int .i64 x.k) x.val).run Try.prog w = .ok () w' ∧ MapIs w' m (lay l x) ∧ Turned w w' m := by
  obtain ⟨es, clock, hb, H⟩ := h
  have hlen := H.length
  have hf := findNow_files x.k es.toList l 0 H.same
  have hc : (Instr.checkKey false 10000 3 (.int .i64 x.k)).run Try.prog w = .ok () w := MapKept.run_checkKey (d := .int .i64) (k := .int .i64 x.k) Try.underlying3 (show MapKept.IsKey (.int .i64) (.int .i64 x.k) from rfl) _ _
  have hks : (Instr.keyThatStays (.int .i64 x.k) (.int .i64 x.k)).run Try.prog w = .ok (.int .i64 x.k) w := MapKept.run_keyThatStays (d := .int .i64) (k := .int .i64 x.k) (show MapKept.IsKey (.int .i64) (.int .i64 x.k) from rfl)
  have hfk := MapKept.run_findKey (w := w) Try.underlying3 hf
  have hrun : ∀ o : Obj, (setObj m o).run Try.prog w = .ok () (setBlock w m o) := fun o => MapKept.run_setObj_map o hb
  cases hj : l.findIdx? (fun y => y.k == x.k) with
  | none =>
    refine ⟨setBlock w m (.map (es.push { key := .int .i64 x.k, val := x.val, born := clock }) (clock + 1)), ?_, ⟨es.push { key := .int .i64 x.k, val := x.val, born := clock }, clock + 1, ChangeMaps.heap_setBlock_same hb _, ?_⟩, Turned.setMap hb⟩
    · simp [Instr.mapUpdate, run_underlying Try.underlying73, MapKept.run_getObj_map hb, hc, hfk, hj, hrun]
    · rw [lay_new x l hj]
      refine ⟨?_, ?_, ?_, by rw [← lay_new x l hj]; exact nodup_lay x l H.keys, ?_⟩
      · simp [H.same, Fl.pair]
      · intro e he
        simp only [Array.toList_push, List.mem_append, List.mem_singleton] at he
        rcases he with he | rfl
        · have := H.young e he; omega
        · simp
      · simp only [Array.toList_push, List.map_append, List.map_cons, List.map_nil]
        rw [List.nodup_append]
        refine ⟨H.apart, by simp, fun a ha b hb => ?_⟩
        simp only [List.mem_singleton] at hb
        subst hb
        obtain ⟨e, he, rfl⟩ := List.mem_map.1 ha
        have := H.young e he
        omega
      · simp only [Array.size_push, maxLen]; omega
  | some j =>
    have hjl := (List.findIdx?_eq_some_iff_getElem.1 hj).1
    have hkj : (l[j]).k = x.k := by simpa using (List.findIdx?_eq_some_iff_getElem.1 hj).2.1
    have hje : j < es.size := by omega
    have hkey : (es[j]).key = .int .i64 x.k := by
      have h1 := congrArg (fun q => q[j]?) H.same
      simp only [List.getElem?_map, List.getElem?_eq_getElem hjl, Option.map_some, Array.getElem?_toList, Array.getElem?_eq_getElem hje, Option.some.injEq, Fl.pair, Prod.mk.injEq] at h1
      rw [h1.1, hkj]
    refine ⟨setBlock w m (.map (es.modify j fun e => { e with key := .int .i64 x.k, val := x.val }) clock), ?_, ⟨es.modify j fun e => { e with key := .int .i64 x.k, val := x.val }, clock, ChangeMaps.heap_setBlock_same hb _, ?_⟩, Turned.setMap hb⟩
    · simp [Instr.mapUpdate, run_underlying Try.underlying73, MapKept.run_getObj_map hb, hc, hfk, hj, hrun, List.getElem?_eq_getElem hjl, Array.getElem?_eq_getElem hje, hkey, hks]
    · have hml : (es.modify j fun e => { e with key := .int .i64 x.k, val := x.val }).toList = es.toList.modify j fun e => { e with key := .int .i64 x.k, val := x.val } := Array.toList_modify
      have hborn : (es.toList.modify j fun e => { e with key := .int .i64 x.k, val := x.val }).map (·.born) = es.toList.map (·.born) := by
        rw [map_modify (fun e : MapEntry => e.born) _ (es[j]).born _ _ (fun y hy => by
          rw [Array.getElem?_toList, Array.getElem?_eq_getElem hje] at hy
          exact (show y.born = es[j].born from congrArg MapEntry.born (Option.some.inj hy).symm))]
        apply List.ext_getElem?
        intro i
        by_cases hi : j = i
        · subst hi
          simp [hje]
        · simp [hi]
      refine ⟨?_, ?_, by rw [hml, hborn]; exact H.apart, nodup_lay x l H.keys, ?_⟩
      · rw [hml, map_modify (fun e : MapEntry => (e.key, e.val)) _ x.pair _ _ (fun y _ => rfl), lay_at x l j H.keys hj, H.same]
        apply List.ext_getElem?
        intro i
        by_cases hi : j = i
        · subst hi
          simp [hjl]
        · simp [hi]
      · intro e he
        rw [hml] at he
        have : e.born ∈ es.toList.map (·.born) := by rw [← hborn]; exact List.mem_map_of_mem he
        obtain ⟨e2, he2, h3⟩ := List.mem_map.1 this
        rw [← h3]
        exact H.young e2 he2
      · rw [Array.size_modify]; exact H.small

theorem MapIs.made (w : World) : MapIs (w.alloc (.map #[] 0)) w.heap.size [] :=
  ⟨#[], 0, (MapKept.heap_alloc w _).1, by simp, by simp, by simp, by simp, by simp [maxLen]⟩

theorem MapIs.of_block {w' : World} (h : MapIs w m l) (hb : w'.heap[m]? = w.heap[m]?) : MapIs w' m l := by
  obtain ⟨es, clock, h1, H⟩ := h
  exact ⟨es, clock, hb.trans h1, H⟩

end

end Go.Proofs.Ytljfagagopaidaa

/- The map laws at the operations of a walk, and the loop over a map. -/
namespace Go.Proofs.Ytljfagagopaidaa
open Go.RowKit
open Go.ChangeMaps (setBlock)
set_option linter.unusedSimpArgs false
set_option linter.unusedVariables false

theorem Turned.fr {w w' : World} {m : Nat} (h : Turned w w' m) : Fr (· = m) w w' := ⟨h.os, h.tape, h.output, by rw [h.size]; exact Nat.le_refl _, fun k _ hn => h.block k hn⟩

section
variable {w : World} {ops : Array Oper} {rest : List Oper} {o : Oper} {a : Act} {Q : Exit → Act → World → Prop} {m : Nat} {l : List Fl}

/-- The bytes at a key, and how many are synced; of none: none. -/
def sAt (l : List Fl) (k : Int) : ByteArray := ((look l k).map Fl.s).getD ⟨#[]⟩
def nAt (l : List Fl) (k : Int) : Int := ((look l k).map Fl.n).getD 0
theorem atKey_eq (l : List Fl) (k : Int) : ((look l k).map Fl.val).getD zeroVal = .agg #[.string (sAt l k), .int .i64 (nAt l k)] := by
  unfold sAt nAt
  cases look l k <;> rfl

theorem wp_lookup (hg : o.guard = none) (mo ko : Operand) (k : Int) (hop : o.op = Op.lookup 73 mo ko false) (h : MapIs w m l) (hm : a.eval mo = .map (some m)) (hk : a.eval ko = .int .i64 k)
    (hK : wpList Try.prog ops Q rest (a.put o.dst (.agg #[.string (sAt l k), .int .i64 (nAt l k)])) w) : wpList Try.prog ops Q (o :: rest) a w := by
  refine wpList_plain hg fun K' hK' => ?_
  have hrun := h.lookup k
  rw [atKey_eq] at hrun
  unfold Oper.wp
  simp [execOp, hop, hm, hk, hrun, Result.andThen]
  exact hK' _ _ hK

theorem wp_lookup_ok (hg : o.guard = none) (mo ko : Operand) (k : Int) (hop : o.op = Op.lookup 73 mo ko true) (h : MapIs w m l) (hm : a.eval mo = .map (some m)) (hk : a.eval ko = .int .i64 k)
    (hK : wpList Try.prog ops Q rest (a.put o.dst (.tuple #[.agg #[.string (sAt l k), .int .i64 (nAt l k)], .bool (look l k).isSome])) w) : wpList Try.prog ops Q (o :: rest) a w := by
  refine wpList_plain hg fun K' hK' => ?_
  have hrun := h.lookup_ok k
  rw [atKey_eq] at hrun
  unfold Oper.wp
  simp [execOp, hop, hm, hk, hrun, Result.andThen]
  exact hK' _ _ hK

theorem wp_update (hg : o.guard = none) (mo ko vo : Operand) (x : Fl) (hop : o.op = Op.mapUpdate 73 mo ko vo) (h : MapIs w m l) (hl : l.length < 1048576) (hm : a.eval mo = .map (some m)) (hk : a.eval ko = .int .i64 x.k) (hv : a.eval vo = .agg #[.string x.s, .int .i64 x.n])
    (hK : ∀ w', MapIs w' m (lay l x) → Turned w w' m → wpList Try.prog ops Q rest (a.put o.dst undef) w') : wpList Try.prog ops Q (o :: rest) a w := by
  refine wpList_plain hg fun K' hK' => ?_
  obtain ⟨w', hrun, h1, h2⟩ := h.update x hl
  unfold Fl.val at hrun
  unfold Oper.wp
  simp [execOp, hop, hm, hk, hv, hrun, Result.andThen]
  exact hK' _ _ (hK w' h1 h2)

theorem wp_delete (hg : o.guard = none) (mo ko : Operand) (k : Int) (hop : o.op = Op.call { callee := Callee.builtin Builtin.delete, args := #[mo, ko], argTypes := #[73, 3] }) (h : MapIs w m l) (hm : a.eval mo = .map (some m)) (hk : a.eval ko = .int .i64 k)
    (hK : ∀ w', MapIs w' m (drop l k) → Turned w w' m → wpList Try.prog ops Q rest (a.put o.dst (.tuple #[])) w') : wpList Try.prog ops Q (o :: rest) a w := by
  refine wpList_plain hg fun K' hK' => ?_
  obtain ⟨w', hrun, h1, h2⟩ := h.delete k o.type
  unfold Oper.wp
  simp [execOp, hop, resolve, invoke, builtin, hm, hk, hrun, Result.andThen]
  exact hK' _ _ (hK w' h1 h2)

/-- An iterator at block r over the map at block m: the files of 'left' are still to come. -/
def Ranges (w : World) (r m : Nat) (l left : List Fl) : Prop :=
  ∃ es clock seen, w.heap[m]? = some (.map es clock) ∧ EntriesAre es clock l ∧ w.heap[r]? = some (.mapIter (some m) clock seen clock) ∧ (left.map Fl.pair).Perm ((leftOf es seen).toList.map fun e => (e.key, e.val))

theorem Fl.pair_inj {x y : Fl} (h : x.pair = y.pair) : x = y := by
  cases x; cases y
  simp [Fl.pair, Fl.val] at h
  simp [h]

theorem Ranges.fr {w' : World} {r : Nat} {left : List Fl} {S : Nat → Prop} (h : Ranges w r m l left) (k : Fr S w w') (hr : ¬ S r) (hm : ¬ S m) : Ranges w' r m l left := by
  obtain ⟨es, clock, seen, h1, H, h2, h3⟩ := h
  exact ⟨es, clock, seen, k.keep h1 hm, H, k.keep h2 hr, h3⟩

theorem filter_perm_cons (e : MapEntry) (seen : Array Nat) : ∀ (es : List MapEntry), (es.map (·.born)).Nodup → e ∈ es → seen.contains e.born = false →
    (es.filter fun x => !seen.contains x.born).Perm (e :: es.filter fun x => !(seen.push e.born).contains x.born)
  | x :: es, hn, he, hs => by
    have hn' := List.nodup_cons.1 hn
    rcases List.mem_cons.1 he with rfl | h
    · have h1 : ((seen.push e.born).contains e.born) = true := by rw [contains_push]; simp
      have h2 : es.filter (fun x => !seen.contains x.born) = es.filter (fun x => !(seen.push e.born).contains x.born) := List.filter_congr fun y hy => by
        rw [contains_push]
        have : y.born ≠ e.born := fun heq => hn'.1 (List.mem_map.2 ⟨y, hy, heq⟩)
        simp [this]
      simp only [List.filter_cons, hs, h1, Bool.not_false, if_true, Bool.not_true, Bool.false_eq_true, if_false, h2]
      exact List.Perm.refl _
    · have ih := filter_perm_cons e seen es hn'.2 h hs
      have hne : x.born ≠ e.born := fun heq => hn'.1 (List.mem_map.2 ⟨e, h, heq.symm⟩)
      have h1 : ((seen.push e.born).contains x.born) = seen.contains x.born := by rw [contains_push]; simp [hne]
      simp only [List.filter_cons, h1]
      cases hc : seen.contains x.born with
      | true => simpa using ih
      | false =>
        simp only [Bool.not_false, if_true]
        exact (ih.cons x).trans (List.Perm.swap _ _ _)

theorem wp_range (hg : o.guard = none) (mo : Operand) (hop : o.op = Op.range 73 mo) (h : MapIs w m l) (hm : a.eval mo = .map (some m))
    (hK : ∀ w', Ranges w' w.heap.size m l l → Fr (fun _ => False) w w' → w'.heap.size = w.heap.size + 1 → wpList Try.prog ops Q rest (a.put o.dst (.pointer (some ⟨w.heap.size, 0, none⟩))) w') : wpList Try.prog ops Q (o :: rest) a w := by
  refine wpList_plain hg fun K' hK' => ?_
  obtain ⟨es, clock, hb, H⟩ := h
  have hrun := run_range_map w 73 3 77 m es clock Try.underlying73 hb
  unfold Oper.wp
  simp [execOp, hop, hm, hrun, Result.andThen]
  refine hK' _ _ (hK _ ⟨es, clock, #[], alloc_old hb _, H, heap_alloc_new _ _, ?_⟩ ((Fr.refl _ w).alloc _) (by simp))
  rw [← H.same]
  have : leftOf es #[] = es := by unfold leftOf; simp
  rw [this]

theorem wp_next (hg : o.guard = none) (it : Operand) (hop : o.op = Op.next it false) {r : Nat} {left : List Fl} (h : Ranges w r m l left) (hit : a.eval it = .pointer (some ⟨r, 0, none⟩))
    (hDone : left = [] → wpList Try.prog ops Q rest (a.put o.dst (.tuple #[.bool false])) w)
    (hMore : ∀ (x : Fl) (left' : List Fl) (w' : World), left.Perm (x :: left') → Ranges w' r m l left' → Fr (· = r) w w' → w'.heap.size = w.heap.size →
      (Instr.entry (.pointer (some ⟨r, 0, none⟩))).run Try.prog w' = .ok (.tuple #[.int .i64 x.k, .agg #[.string x.s, .int .i64 x.n]]) w' → wpList Try.prog ops Q rest (a.put o.dst (.tuple #[.bool true, .int .i64 x.k, .agg #[.string x.s, .int .i64 x.n]])) w') :
    wpList Try.prog ops Q (o :: rest) a w := by
  refine wpList_plain hg fun K' hK' => ?_
  obtain ⟨es, clock, seen, hb, H, hr, hp⟩ := h
  unfold Oper.wp
  have hmr : m ≠ r := by rintro rfl; rw [hb] at hr; cases hr
  rcases run_next_at (P := Try.prog) w o.type r m clock clock seen es clock hr hb H.young (Nat.le_refl _) with ⟨h0, hrun⟩ | ⟨e, he, w1, hw1, hrun⟩
  · simp [execOp, hop, hit, hrun, Result.andThen]
    refine hK' _ _ (hDone ?_)
    have : leftOf es seen = #[] := Array.eq_empty_of_size_eq_zero h0
    rw [this] at hp
    have := hp.length_eq
    simpa using this
  · have hm := mem_left he
    -- the file of the entry
    have hmem : (e.key, e.val) ∈ left.map Fl.pair := hp.mem_iff.2 (List.mem_map_of_mem he)
    obtain ⟨x, hx, hxe⟩ := List.mem_map.1 hmem
    have hk : e.key = .int .i64 x.k := (congrArg Prod.fst hxe).symm
    have hv : e.val = x.val := (congrArg Prod.snd hxe).symm
    have hperm := filter_perm_cons e seen es.toList H.apart hm.1 hm.2
    have e1 : ∀ s : Array Nat, (leftOf es s).toList = es.toList.filter fun y => !s.contains y.born := fun s => by unfold leftOf; rw [Array.toList_filter]
    obtain ⟨l1, l2, rfl⟩ := List.append_of_mem hx
    simp [execOp, hop, hit, hrun, Result.andThen, hk, hv]
    have hf1 : Fr (fun _ => False) w w1 := by rcases hw1 with rfl | rfl; exact Fr.refl _ _; exact (Fr.refl _ _).drew
    have hs1 : w1.heap.size = w.heap.size := by rcases hw1 with rfl | rfl <;> rfl
    have hr1 : w1.heap[r]? = some (.mapIter (some m) clock seen clock) := hf1.keep hr id
    have hb1 : w1.heap[m]? = some (.map es clock) := hf1.keep hb id
    have hrlt : r < w1.heap.size := lt_blk hr1
    have hr2 : (setBlock w1 r (.mapIter (some m) clock (seen.push e.born) clock)).heap[r]? = some (.mapIter (some m) clock (seen.push e.born) clock) := by
      simp [ChangeMaps.setBlock, hrlt]
    have hoth : ∀ i, i ≠ r → (setBlock w1 r (.mapIter (some m) clock (seen.push e.born) clock)).heap[i]? = w1.heap[i]? := fun i hi => by
      simp [ChangeMaps.setBlock, Ne.symm hi]
    have hb2 := (hoth m hmr).trans hb1
    have hen := run_entry_at (P := Try.prog) _ r m clock seen es clock e hr2 hb2 hm.1 H.apart
    rw [hk, hv] at hen
    refine hK' _ _ (hMore x (l1 ++ l2) _ List.perm_middle ⟨es, clock, seen.push e.born, hb2, H, hr2, ?_⟩ ?_ ?_ hen)
    · have h3 : ((l1 ++ x :: l2).map Fl.pair).Perm (x.pair :: (l1 ++ l2).map Fl.pair) := by
        simp only [List.map_append, List.map_cons]; exact List.perm_middle
      have h4 := h3.symm.trans hp
      rw [e1] at h4
      have h5 := h4.trans (hperm.map _)
      rw [List.map_cons, ← hxe] at h5
      rw [e1]
      exact (List.perm_cons _).1 h5
    · exact (hf1.mono (fun _ _ h => h.elim)).trans ⟨rfl, rfl, rfl, by simp [ChangeMaps.setBlock], fun i _ hi => hoth i hi⟩
    · simp [ChangeMaps.setBlock, hs1]
end

end Go.Proofs.Ytljfagagopaidaa

/- The disk's small methods, each walked once. -/
namespace Go.Proofs.Ytljfagagopaidaa
open Go.RowKit
set_option linter.unusedSimpArgs false
set_option linter.unusedVariables false

structure Dk where
  files : List Fl
  limit : Int
  armed : Int
  dead : Bool
  steps : Int

/-- A disk at block g, its map at block m. -/
structure DiskAt (w : World) (g m : Nat) (d : Dk) : Prop where
  blk : w.heap[g]? = some (.cells #[.map (some m), .int .i64 d.limit, .int .i64 d.armed, .bool d.dead, .int .i64 d.steps] 75 (0, 0))
  map : MapIs w m d.files

def Dk.wrong (d : Dk) (f : Int) : Int := if d.dead then 50 else if f < 0 ∨ 65536 ≤ f then 1 else 0
def Dk.step (d : Dk) : Dk := 
  { d with steps := wrap64 (d.steps + 1), armed := if 0 < d.armed then d.armed - 1 else d.armed, dead := if 0 < d.armed then d.armed - 1 == 0 else d.dead }
def Dk.stepE (d : Dk) : Int := if d.step.dead then 50 else 0

set_option maxHeartbeats 400000 in
theorem wrong_calls {w : World} {g m : Nat} {d : Dk} (h : DiskAt w g m d) (f : Int) :
    Calls Try.prog 51 #[.pointer (some ⟨g, 0, none⟩), .int .i64 f] w fun e w' => e = .returned (.int .i64 (d.wrong f)) ∧ w = w' := by
  have c3 : w.cell? ⟨g, 3, none⟩ = some (.bool d.dead) := (cell_blk h.blk 3).trans rfl
  unfold Dk.wrong
  cases hd : d.dead with
  | true =>
    rw [hd] at c3
    go_enter Try.func51, Try.ntmps51
    go_wp2
    go_ret
    exact ⟨rfl, rfl⟩
  | false =>
    rw [hd] at c3
    by_cases h1 : f < 0
    · go_enter Try.func51, Try.ntmps51
      go_wp2
      go_ret
      exact ⟨by simp [h1], rfl⟩
    · by_cases h2 : 65536 ≤ f
      · go_enter Try.func51, Try.ntmps51
        go_wp2
        go_ret
        exact ⟨by simp [h2], rfl⟩
      · go_enter Try.func51, Try.ntmps51
        go_wp2
        go_ret
        exact ⟨by simp [h1, h2], rfl⟩

theorem wrong_nil (w : World) (f : Int) :
    Calls Try.prog 51 #[.pointer none, .int .i64 f] w fun e w' => e = .returned (.int .i64 2) ∧ w = w' := by
  go_enter Try.func51, Try.ntmps51
  go_wp2
  go_ret
  exact ⟨rfl, rfl⟩


def Two (g m : Nat) : Nat → Prop := fun k => k = g ∨ k = m


theorem DiskAt.ne {w : World} {g m : Nat} {d : Dk} (h : DiskAt w g m d) : m ≠ g := by
  rintro rfl
  obtain ⟨es, clock, hb, _⟩ := h.map
  rw [h.blk] at hb
  cases hb

theorem DiskAt.fr {w w' : World} {g m : Nat} {d : Dk} {S : Nat → Prop} (h : DiskAt w g m d) (k : Fr S w w') (hg : ¬ S g) (hm : ¬ S m) : DiskAt w' g m d :=
  ⟨k.keep h.blk hg, h.map.of_block (k.block _ h.map.lt hm)⟩

theorem DiskAt.alloc {w : World} {g m : Nat} {d : Dk} (h : DiskAt w g m d) (o : Obj) : DiskAt (w.alloc o) g m d := h.fr ((Fr.refl (fun _ => False) w).alloc o) id id

theorem MapIs.setCell {w : World} {m : Nat} {l : List Fl} (h : MapIs w m l) {p : Addr} (hp : m ≠ p.block) (v : Value) : MapIs (w.setCell p v) m l := h.of_block (Below.heap_setCell _ _ _ _ hp)

set_option maxHeartbeats 400000 in
theorem step_calls {w : World} {g m : Nat} {d : Dk} (h : DiskAt w g m d) (ha : 0 ≤ d.armed) (ha2 : d.armed ≤ 9223372036854775807) :
    Calls Try.prog 52 #[.pointer (some ⟨g, 0, none⟩)] w fun e w' => e = .returned (.int .i64 d.stepE) ∧ DiskAt w' g m d.step ∧ Fr (Two g m) w w' := by
  have c2 : w.cell? ⟨g, 2, none⟩ = some (.int .i64 d.armed) := (cell_blk h.blk 2).trans rfl
  have c3 : w.cell? ⟨g, 3, none⟩ = some (.bool d.dead) := (cell_blk h.blk 3).trans rfl
  have c4 : w.cell? ⟨g, 4, none⟩ = some (.int .i64 d.steps) := (cell_blk h.blk 4).trans rfl
  have f2 := free_blk h.blk 2
  have f3 := free_blk h.blk 3
  have f4 := free_blk h.blk 4
  have hfr : ∀ a b c, Fr (Two g m) w (((w.setCell ⟨g, 4, none⟩ a).setCell ⟨g, 2, none⟩ b).setCell ⟨g, 3, none⟩ c) := fun a b c =>
    (((Fr.refl _ w).setCell (fun _ => .inl rfl) _).setCell (fun _ => .inl rfl) _).setCell (fun _ => .inl rfl) _
  have hat : ∀ a b c, DiskAt (((w.setCell ⟨g, 4, none⟩ (.int .i64 a)).setCell ⟨g, 2, none⟩ (.int .i64 b)).setCell ⟨g, 3, none⟩ (.bool c)) g m { d with steps := a, armed := b, dead := c } := fun a b c =>
    ⟨by simpa using set_blk (set_blk (set_blk h.blk 4 (.int .i64 a)) 2 (.int .i64 b)) 3 (.bool c), ((h.map.setCell h.ne _).setCell h.ne _).setCell h.ne _⟩
  have hfr1 : ∀ a, Fr (Two g m) w (w.setCell ⟨g, 4, none⟩ a) := fun a => (Fr.refl _ w).setCell (fun _ => .inl rfl) _
  have hat1 : ∀ a, DiskAt (w.setCell ⟨g, 4, none⟩ (.int .i64 a)) g m { d with steps := a } := fun a =>
    ⟨by simpa using set_blk h.blk 4 (.int .i64 a), h.map.setCell h.ne _⟩
  by_cases h1 : 0 < d.armed
  · by_cases h2 : d.armed = 1
    · have hx : ((d.armed - 1) == 0) = true := by rw [h2]; rfl
      have Hx := Lib.hid h2; clear h2
      go_enter Try.func52, Try.ntmps52
      go_wp2
      go_ret
      exact ⟨by simp [Dk.stepE, Dk.step, h1, hx], by simpa [Dk.step, h1, hx] using hat _ _ _, hfr _ _ _⟩
    · have hx : ((d.armed - 1) == 0) = false := by rw [beq_eq_false_iff_ne]; omega
      go_enter Try.func52, Try.ntmps52
      go_wp2
      go_ret
      exact ⟨by simp [Dk.stepE, Dk.step, h1, hx], by simpa [Dk.step, h1, hx] using hat _ _ _, hfr _ _ _⟩
  · have h0 : (if 0 < d.armed then d.armed - 1 else d.armed) = d.armed := if_neg h1
    have h0' : (if 0 < d.armed then d.armed - 1 == 0 else d.dead) = d.dead := if_neg h1
    have Hs := Lib.hid (show d.step = { d with steps := wrap64 (d.steps + 1) } by unfold Dk.step; rw [h0, h0'])
    have He := Lib.hid (show d.stepE = if d.dead then 50 else 0 by unfold Dk.stepE; rw [Hs.out])
    clear h0 h0'
    cases hd : d.dead with
    | true =>
      rw [hd] at c3
      have Hx := Lib.hid hd
      clear hd
      go_enter Try.func52, Try.ntmps52
      go_wp2
      go_ret
      exact ⟨by rw [He.out, Hx.out]; rfl, by rw [Hs.out]; exact hat1 _, hfr1 _⟩
    | false =>
      rw [hd] at c3
      have Hx := Lib.hid hd
      clear hd
      go_enter Try.func52, Try.ntmps52
      go_wp2
      go_ret
      exact ⟨by rw [He.out, Hx.out]; rfl, by rw [Hs.out]; exact hat1 _, hfr1 _⟩

def bytes (l : List Fl) : Nat := (l.map fun x => x.s.size).sum

theorem bytes_perm {l l' : List Fl} (h : l.Perm l') : bytes l = bytes l' := (h.map _).sum_nat

end Go.Proofs.Ytljfagagopaidaa

/- The disk's size, walked. -/
namespace Go.Proofs.Ytljfagagopaidaa
open Go.RowKit
set_option linter.unusedSimpArgs false
set_option linter.unusedVariables false

set_option maxHeartbeats 400000 in
theorem size_calls {w : World} {g m : Nat} {d : Dk} (h : DiskAt w g m d) (hs : bytes d.files ≤ 1099511627776) :
    Calls Try.prog 34 #[.pointer (some ⟨g, 0, none⟩)] w fun e w' => e = .returned (.int .i64 (bytes d.files)) ∧ DiskAt w' g m d ∧ Fr (fun _ => False) w w' := by
  have c0 : w.cell? ⟨g, 0, none⟩ = some (.map (some m)) := (cell_blk h.blk 0).trans rfl
  go_enter Try.func34, Try.ntmps34
  go_wp2_with (first | (at_range; refine wp_range rfl _ rfl h.map rfl ?_; intro w0 hrg0 hg0 hs0) | go_in)
  go_frame
  have hne : w.heap.size ≠ g := fun e => by have := lt_blk h.blk; omega
  have hnm : w.heap.size ≠ m := fun e => by have := h.map.lt; omega
  have hw0 : DiskAt w0 g m d := h.fr hg0 id id
  obtain ⟨r, hr⟩ : ∃ r, r = w.heap.size := ⟨_, rfl⟩
  rw [← hr] at hrg0 hne hnm ⊢
  have Hr := Lib.hid hr; clear hr
  clear hs0
  go_loopg [3] d.files.length (fun kq v wr => ∃ left : List Fl, kq = left.length ∧ v = .int .i64 ((bytes d.files : Int) - bytes left) ∧ Ranges wr r m d.files left ∧ DiskAt wr g m d ∧ Fr (fun _ => False) w wr ∧ Hid (bytes left ≤ bytes d.files))
  case atStart => exact ⟨d.files, rfl, by simp, hrg0, hw0, hg0, Nat.le_refl _⟩
  case round =>
    obtain ⟨left, rfl, rfl, hrg, hdk, hfr, hle⟩ := hrel
    go_wp2_with (first | (at_next; refine wp_next rfl _ rfl hrg rfl ?_ ?_) | go_in)
    · intro hl
      subst hl
      go_wp2
      go_ret
      exact ⟨by simp [bytes], hdk, hfr⟩
    · intro x left' w1 hperm hrg1 hfr1 hsz1 hen
      have hb : bytes left = x.s.size + bytes left' := by rw [bytes_perm hperm]; simp [bytes]
      have hlen : left.length = left'.length + 1 := by rw [hperm.length_eq]; rfl
      have hle' : (bytes left : Int) ≤ bytes d.files := by have := hle.out; omega
      have hx : (x.s.size : Int) ≤ 1099511627776 := by have := hle.out; omega
      have hsi : (bytes d.files : Int) ≤ 1099511627776 := by omega
      have Hb := Lib.hid hb; clear hb
      have Hl := Lib.hid hlen; clear hlen hsz1
      have hdk1 : DiskAt w1 g m d := hdk.fr hfr1 hne.symm hnm.symm
      have hf1 : Fr (fun _ => False) w w1 := hfr.then_ hfr1 (fun i hi e => by have := Hr.out; omega)
      have hrm : m ≠ r := hnm.symm
      go_wp2
      go_roundg left'.length
      case measure => have := Hl.out; omega
      case rel =>
        refine ⟨left', rfl, ?_, ?_, ?_, ?_, ?_⟩
        · have := Hb.out
          exact congrArg (Value.int .i64) (by omega)
        · exact hrg1.fr ((Fr.refl (fun _ => False) _).alloc _) id id
        · exact hdk1.alloc _
        · exact hf1.alloc _
        · have := Hb.out
          have := hle.out
          show _ ≤ _
          omega
end Go.Proofs.Ytljfagagopaidaa

/- The disk's Append, walked. -/
namespace Go.Proofs.Ytljfagagopaidaa
open Go.RowKit
set_option linter.unusedSimpArgs false
set_option linter.unusedVariables false

/-- What holds of a disk as long as it is used. -/
structure Dk.Ok (d : Dk) : Prop where
  lim : d.limit ≤ 16777216
  arm0 : 0 ≤ d.armed
  arm1 : d.armed ≤ 9223372036854775807
  size : (bytes d.files : Int) ≤ d.limit ∨ d.files = []
  many : d.files.length ≤ 65536
  keys : ∀ x ∈ d.files, 0 ≤ x.k ∧ x.k < 65536

def Dk.put (d : Dk) (x : Fl) : Dk := { d with files := lay d.files x }
def Dk.appendE (d : Dk) (f : Int) (s : ByteArray) : Int :=
  if d.wrong f ≠ 0 then d.wrong f else if d.limit < bytes d.files + s.size then 51 else d.stepE
def Dk.append (d : Dk) (f : Int) (s : ByteArray) : Dk :=
  if d.wrong f ≠ 0 then d else if d.limit < bytes d.files + s.size then d else (d.put ⟨f, sAt d.files f ++ s, nAt d.files f⟩).step

theorem MapIs.alloc {w : World} {m : Nat} {l : List Fl} (h : MapIs w m l) (o : Obj) : MapIs (w.alloc o) m l := h.of_block (Below.heap_alloc _ _ _ h.lt)
theorem MapIs.drew {w : World} {m : Nat} {l : List Fl} (h : MapIs w m l) : MapIs w.drew m l := h
theorem DiskAt.drew {w : World} {g m : Nat} {d : Dk} (h : DiskAt w g m d) : DiskAt w.drew g m d := h.fr ((Fr.refl (fun _ => False) w).drew) id id

theorem Dk.append_wrong {d : Dk} {f : Int} (s : ByteArray) (h : d.wrong f ≠ 0) : d.appendE f s = d.wrong f ∧ d.append f s = d := by
  unfold Dk.appendE Dk.append
  rw [if_pos h, if_pos h]
  exact ⟨rfl, rfl⟩
theorem Dk.append_full {d : Dk} {f : Int} {s : ByteArray} (h : d.wrong f = 0) (h2 : d.limit < bytes d.files + s.size) : d.appendE f s = 51 ∧ d.append f s = d := by
  have h' : ¬ (d.wrong f ≠ 0) := by simp [h]
  unfold Dk.appendE Dk.append
  rw [if_neg h', if_neg h', if_pos h2, if_pos h2]
  exact ⟨rfl, rfl⟩
theorem Dk.append_goes {d : Dk} {f : Int} {s : ByteArray} (h : d.wrong f = 0) (h3 : (bytes d.files : Int) + s.size ≤ d.limit) : d.appendE f s = d.stepE ∧ d.append f s = (d.put ⟨f, sAt d.files f ++ s, nAt d.files f⟩).step := by
  have h' : ¬ (d.wrong f ≠ 0) := by simp [h]
  have h2 : ¬ d.limit < bytes d.files + s.size := by omega
  unfold Dk.appendE Dk.append
  rw [if_neg h', if_neg h', if_neg h2, if_neg h2]
  exact ⟨rfl, rfl⟩

theorem look_mem {l : List Fl} {k : Int} {x : Fl} (h : look l k = some x) : x ∈ l ∧ x.k = k :=
  ⟨List.mem_of_find?_eq_some h, by simpa using List.find?_some h⟩
theorem size_le_bytes {l : List Fl} {x : Fl} (h : x ∈ l) : x.s.size ≤ bytes l := by
  induction l with
  | nil => cases h
  | cons y l ih =>
    simp only [bytes, List.map_cons, List.sum_cons]
    rcases List.mem_cons.1 h with rfl | h
    · omega
    · have := ih h
      simp only [bytes] at this
      omega
theorem sAt_le (l : List Fl) (k : Int) : (sAt l k).size ≤ bytes l := by
  unfold sAt
  cases h : look l k with
  | none => exact Nat.zero_le _
  | some x => exact size_le_bytes (look_mem h).1

theorem DiskAt.put_turned {w w2 : World} {g m : Nat} {d : Dk} {x : Fl} {o : Obj} (h : DiskAt w g m d) (ht : Turned (w.alloc o).drew w2 m) (hm : MapIs w2 m (lay d.files x)) : DiskAt w2 g m (d.put x) :=
  ⟨(ht.block g h.ne.symm).trans (alloc_old h.blk o), hm⟩
theorem Fr.put_turned {w w1 w2 : World} {g m : Nat} {o : Obj} (k : Fr (fun _ => False) w w1) (ht : Turned (w1.alloc o).drew w2 m) : Fr (Two g m) w w2 :=
  ((k.none_).alloc o).drew.then_ ht.fr (fun _ _ e => .inr e)

set_option maxRecDepth 100000 in
set_option maxHeartbeats 400000 in
theorem append_calls {w : World} {g m : Nat} {d : Dk} (h : DiskAt w g m d) (ok : d.Ok) (f : Int) (s : ByteArray) (hs : s.size ≤ 140737488355328) :
    Calls Try.prog 14 #[.pointer (some ⟨g, 0, none⟩), .int .i64 f, .string s] w fun e w' => e = .returned (.int .i64 (d.appendE f s)) ∧ DiskAt w' g m (d.append f s) ∧ Fr (Two g m) w w' := by
  have c0 : w.cell? ⟨g, 0, none⟩ = some (.map (some m)) := (cell_blk h.blk 0).trans rfl
  have c1 : w.cell? ⟨g, 1, none⟩ = some (.int .i64 d.limit) := (cell_blk h.blk 1).trans rfl
  by_cases hw : d.wrong f = 0
  · have hb : (d.wrong f != 0) = false := by simpa using hw
    have hsz := ok.size
    have hbs : bytes d.files ≤ 16777216 := by
      rcases hsz with hsz | hsz
      · have := ok.lim; omega
      · rw [hsz]; simp [bytes]
    have hwr : IntKind.i64.wrap ((bytes d.files : Int) + (s.size : Int)) = (bytes d.files : Int) + (s.size : Int) := IntWalk.i64_in _ (by omega)
    have hlen : (sAt d.files f).size ≤ 16777216 := Nat.le_trans (sAt_le _ _) hbs
    have hbi : (bytes d.files : Int) ≤ 16777216 := by omega
    have hlm := ok.lim
    have hmany : d.files.length < 1048576 := by have := ok.many; omega
    have Hw := Lib.hid hw; clear hw
    have Hm := Lib.hid hmany; clear hmany
    go_enter Try.func14, Try.ntmps14
    go_wp2_with (first | (go_at_call 51; refine (wrong_calls h f).mono ?_; rintro e w' ⟨rfl, rfl⟩))
    go_region_held3 (fun w' => w'.cell? ⟨g, 1, none⟩ = some (.int .i64 d.limit)) (first | go_keep | (exact (cell_blk (DiskAt.blk ‹_›) 1).trans rfl))
      (first | (go_at_call 34; refine (size_calls (d := d) (m := m) ?_ ?_).mono ?_; (exact h.drew); (omega); rintro e w1 ⟨rfl, h1, k1⟩))
    have c01 : w1.cell? ⟨g, 0, none⟩ = some (.map (some m)) := (cell_blk h1.blk 0).trans rfl
    clear hwr
    by_cases hlim : d.limit < (bytes d.files : Int) + (s.size : Int)
    · have Hl := Lib.hid hlim
      go_wp2
      go_ret
      exact ⟨by rw [(Dk.append_full Hw.out Hl.out).1]; rfl, by rw [(Dk.append_full Hw.out Hl.out).2]; exact h1, (Fr.refl _ w).drew.trans k1.none_⟩
    · have Hl := Lib.hid hlim
      have hs2 : (s.size : Int) ≤ 16777216 := by omega
      go_wp2_with (first | (at_lookup; refine wp_lookup rfl _ _ f rfl h1.map rfl rfl ?_) | go_in)
      have cq : ∀ o, (w1.alloc o).cell? ⟨g, 0, none⟩ = some (.map (some m)) := fun o => (cell_blk (alloc_old h1.blk o) 0).trans rfl
      refine wp_tail 6 (by kernel_rfl) (by kernel_rfl) ?_
      simp only [List.take_succ_cons, List.take_zero, List.drop_succ_cons, List.drop_zero]
      repeat still_step
      refine wpStill_nil ?_
      refine wp_update rfl _ _ _ ⟨f, sAt d.files f ++ s, nAt d.files f⟩ rfl ((h1.map.alloc _).drew) Hm.out (by rfl) (by rfl) (by rfl) ?_
      intro w2 hm2 ht2
      have h2 := h1.put_turned ht2 hm2
      have k2 : Fr (Two g m) w w2 := ((Fr.refl _ w).drew.trans k1).put_turned ht2
      go_wp2_with fail
      refine (step_calls h2 ok.arm0 ok.arm1).mono ?_
      rintro e w3 ⟨rfl, h3, k3⟩
      go_wp2
      go_ret
      exact ⟨by rw [(Dk.append_goes Hw.out Hl.out).1]; rfl, by rw [(Dk.append_goes Hw.out Hl.out).2]; exact h3, k2.trans k3⟩
  · have hb : (d.wrong f != 0) = true := by simpa using hw
    go_enter Try.func14, Try.ntmps14
    go_wp2_with (first | (go_at_call 51; refine (wrong_calls h f).mono ?_; rintro e w' ⟨rfl, rfl⟩))
    go_ret
    exact ⟨by rw [(Dk.append_wrong s hw).1]; rfl, by rw [(Dk.append_wrong s hw).2]; exact h, Fr.refl _ _⟩
end Go.Proofs.Ytljfagagopaidaa

/- The disk's change, walked with a function value of which a contract is handed in. -/
namespace Go.Proofs.Ytljfagagopaidaa
open Go.RowKit
set_option linter.unusedSimpArgs false
set_option linter.unusedVariables false

def Dk.changed (d : Dk) (f : Int) (D : Dk) : Dk := if d.step.dead then d.step else if (look d.files f).isSome then D else d.step

theorem Dk.changed_dead {d : Dk} {f : Int} {D : Dk} (h : d.step.dead = true) : d.changed f D = d.step ∧ d.stepE = 50 := by
  unfold Dk.changed Dk.stepE
  rw [h]
  exact ⟨rfl, rfl⟩
theorem Dk.changed_none {d : Dk} {f : Int} {D : Dk} (h : d.step.dead = false) (h2 : (look d.files f).isSome = false) : d.changed f D = d.step ∧ d.stepE = 0 := by
  unfold Dk.changed Dk.stepE
  rw [h, h2]
  exact ⟨rfl, rfl⟩
theorem Dk.changed_some {d : Dk} {f : Int} {D : Dk} (h : d.step.dead = false) (h2 : (look d.files f).isSome = true) : d.changed f D = D ∧ d.stepE = 0 := by
  unfold Dk.changed Dk.stepE
  rw [h, h2]
  exact ⟨rfl, rfl⟩

def Does (F : Nat) (caps : Array Value) (w : World) (g m : Nat) (d : Dk) (f : Int) (D : Dk) : Prop :=
  ∀ (w1 : World) (o : Obj), Fr (Two g m) w w1 → DiskAt w1 g m d.step →
    Calls Try.prog F (#[.agg #[.string (sAt d.files f), .int .i64 (nAt d.files f)]] ++ caps) (w1.alloc o) fun e w' => e = .returned (.tuple #[]) ∧ DiskAt w' g m D ∧ Fr (Two g m) (w1.alloc o) w'

set_option maxRecDepth 100000 in
set_option maxHeartbeats 400000 in
theorem change_calls {w : World} {g m : Nat} {d : Dk} (h : DiskAt w g m d) (ok : d.Ok) (f : Int) (F : Nat) (caps : Array Value) (D : Dk) (hF : ∀ args W, (callFunc F args).run Try.prog W = .ok (.enter F args) W) (hdoes : Does F caps w g m d f D) :
    Calls Try.prog 53 #[.pointer (some ⟨g, 0, none⟩), .int .i64 f, .func (.func F) #[] caps] w fun e w' => e = .returned (.int .i64 d.stepE) ∧ DiskAt w' g m (d.changed f D) ∧ Fr (Two g m) w w' := by
  cases hd : d.step.dead with
  | true =>
    have he : d.stepE = 50 := (Dk.changed_dead (f := f) (D := D) hd).2
    have Hd := Lib.hid hd; clear hd
    have He := Lib.hid he
    have hb : (d.stepE != 0) = true := by rw [he]; rfl
    clear he
    go_enter Try.func53, Try.ntmps53
    go_wp2_with (first | (go_at_call 52; refine (step_calls h ok.arm0 ok.arm1).mono ?_; rintro e w3 ⟨rfl, h3, k3⟩))
    go_ret
    exact ⟨rfl, by rw [(Dk.changed_dead Hd.out).1]; exact h3, k3⟩
  | false =>
    have he : d.stepE = 0 := (by unfold Dk.stepE; rw [hd]; rfl)
    have hb : (d.stepE != 0) = false := by rw [he]; rfl
    have Hd := Lib.hid hd; clear hd
    have He := Lib.hid he; clear he
    cases hl : (look d.files f).isSome with
    | false =>
      have hls : (look d.step.files f).isSome = false := hl
      have Hl := Lib.hid hl; clear hl
      go_enter Try.func53, Try.ntmps53
      go_wp2_with (first | (go_at_call 52; refine (step_calls h ok.arm0 ok.arm1).mono ?_; rintro e w3 ⟨rfl, h3, k3⟩; have c0 : w3.cell? ⟨g, 0, none⟩ = some (.map (some m)) := (cell_blk h3.blk 0).trans rfl) | (at_lookup; refine wp_lookup_ok rfl _ _ f rfl h3.map rfl rfl ?_) | go_in)
      go_ret
      exact ⟨by rw [He.out]; rfl, by rw [(Dk.changed_none Hd.out Hl.out).1]; exact h3.alloc _, k3.alloc _⟩
    | true =>
      have hls : (look d.step.files f).isSome = true := hl
      have Hl := Lib.hid hl; clear hl
      go_enter Try.func53, Try.ntmps53
      go_wp2_with (first | (go_at_call 52; refine (step_calls h ok.arm0 ok.arm1).mono ?_; rintro e w3 ⟨rfl, h3, k3⟩; have c0 : w3.cell? ⟨g, 0, none⟩ = some (.map (some m)) := (cell_blk h3.blk 0).trans rfl) | (at_lookup; refine wp_lookup_ok rfl _ _ f rfl h3.map rfl rfl ?_))
      refine (hdoes w3 _ k3 h3).mono ?_
      rintro e w4 ⟨rfl, h4, k4⟩
      go_wp2
      go_ret
      exact ⟨by rw [He.out]; rfl, by rw [(Dk.changed_some Hd.out Hl.out).1]; exact h4, (k3.alloc _).trans k4⟩

theorem runs54 (args : Array Value) (W : World) : (callFunc 54 args).run Try.prog W = .ok (.enter 54 args) W := by go_simp
theorem runs58 (args : Array Value) (W : World) : (callFunc 58 args).run Try.prog W = .ok (.enter 58 args) W := by go_simp
theorem runs59 (args : Array Value) (W : World) : (callFunc 59 args).run Try.prog W = .ok (.enter 59 args) W := by go_simp
end Go.Proofs.Ytljfagagopaidaa

/- The disk's Sync and its function literal, walked. -/
namespace Go.Proofs.Ytljfagagopaidaa
open Go.RowKit
set_option linter.unusedSimpArgs false
set_option linter.unusedVariables false

set_option maxRecDepth 100000 in
set_option maxHeartbeats 400000 in
theorem sync1_calls {w : World} {g m bd bf : Nat} {d : Dk} (h : DiskAt w g m d) (hd : w.heap[bd]? = some (.cells #[.pointer (some ⟨g, 0, none⟩)] 24 (0, 0))) (f : Int) (hf : w.heap[bf]? = some (.cells #[.int .i64 f] 3 (0, 0)))
    (s : ByteArray) (n : Int) (hm : d.files.length < 1048576) (hs : s.size ≤ 140737488355328) :
    Calls Try.prog 54 #[.agg #[.string s, .int .i64 n], .pointer (some ⟨bd, 0, none⟩), .pointer (some ⟨bf, 0, none⟩)] w fun e w' => e = .returned (.tuple #[]) ∧ DiskAt w' g m (d.put ⟨f, s, s.size⟩) ∧ Fr (Two g m) w w' := by
  have Hm := Lib.hid hm; clear hm
  have c0 : ∀ o, (w.alloc o).cell? ⟨g, 0, none⟩ = some (.map (some m)) := fun o => (cell_blk (alloc_old h.blk o) 0).trans rfl
  have cd : ∀ o, (w.alloc o).cell? ⟨bd, 0, none⟩ = some (.pointer (some ⟨g, 0, none⟩)) := fun o => (cell_blk (alloc_old hd o) 0).trans rfl
  have cf : ∀ o, (w.alloc o).cell? ⟨bf, 0, none⟩ = some (.int .i64 f) := fun o => (cell_blk (alloc_old hf o) 0).trans rfl
  go_enter Try.func54, Try.ntmps54
  go_wp2
  refine wp_tail 11 (by kernel_rfl) (by kernel_rfl) ?_
  simp only [List.take_succ_cons, List.take_zero, List.drop_succ_cons, List.drop_zero]
  repeat still_step
  refine wpStill_nil ?_
  refine wp_update rfl _ _ _ ⟨f, s, s.size⟩ rfl ((h.map.alloc _).drew) Hm.out (by rfl) (by rfl) (by rfl) ?_
  intro w2 hm2 ht2
  have h2 := h.put_turned ht2 hm2
  have k2 : Fr (Two g m) w w2 := (Fr.refl _ _).put_turned ht2
  go_wp2
  go_end0
  exact ⟨rfl, h2, k2⟩

def Dk.sync (d : Dk) (f : Int) : Dk := if d.wrong f ≠ 0 then d else d.changed f (d.step.put ⟨f, sAt d.files f, (sAt d.files f).size⟩)
def Dk.changeE (d : Dk) (f : Int) : Int := if d.wrong f ≠ 0 then d.wrong f else d.stepE

theorem Dk.Ok.bytes {d : Dk} (ok : d.Ok) : Ytljfagagopaidaa.bytes d.files ≤ 16777216 := by
  rcases ok.size with hsz | hsz
  · have := ok.lim; omega
  · rw [hsz]; simp [Ytljfagagopaidaa.bytes]
theorem Dk.Ok.sAt {d : Dk} (ok : d.Ok) (f : Int) : (Ytljfagagopaidaa.sAt d.files f).size ≤ 16777216 := Nat.le_trans (sAt_le _ _) ok.bytes
theorem Dk.Ok.step {d : Dk} (h : d.Ok) : d.files.length < 1048576 := by have := h.many; omega

set_option maxRecDepth 100000 in
set_option maxHeartbeats 400000 in
theorem sync_calls {w : World} {g m : Nat} {d : Dk} (h : DiskAt w g m d) (ok : d.Ok) (f : Int) :
    Calls Try.prog 15 #[.pointer (some ⟨g, 0, none⟩), .int .i64 f] w fun e w' => e = .returned (.int .i64 (d.changeE f)) ∧ DiskAt w' g m (d.sync f) ∧ Fr (Two g m) w w' := by
  have hlt := lt_blk h.blk
  have hlm := h.map.lt
  have hsl : (sAt d.files f).size ≤ 140737488355328 := Nat.le_trans (ok.sAt f) (by omega)
  by_cases hw : d.wrong f = 0
  · have hb : (d.wrong f != 0) = false := by simpa using hw
    have e1 : d.changeE f = d.stepE := by unfold Dk.changeE; rw [if_neg (by simp [hw])]
    have e2 : d.sync f = d.changed f (d.step.put ⟨f, sAt d.files f, (sAt d.files f).size⟩) := by unfold Dk.sync; rw [if_neg (by simp [hw])]
    have E1 := Lib.hid e1; have E2 := Lib.hid e2; clear e1 e2
    have Hw := Lib.hid hw; clear hw
    have h1 := (h.alloc (.cells #[.pointer (some ⟨g, 0, none⟩)] 24)).alloc (.cells #[.int .i64 f] 3)
    have hf1 : Fr (fun _ => False) w ((w.alloc (.cells #[.pointer (some ⟨g, 0, none⟩)] 24)).alloc (.cells #[.int .i64 f] 3)) := ((Fr.refl _ w).alloc _).alloc _
    have hbd : ((w.alloc (.cells #[.pointer (some ⟨g, 0, none⟩)] 24)).alloc (.cells #[.int .i64 f] 3)).heap[w.heap.size]? = some (.cells #[.pointer (some ⟨g, 0, none⟩)] 24 (0, 0)) := alloc_old (heap_alloc_new _ _) _
    have hbf : ((w.alloc (.cells #[.pointer (some ⟨g, 0, none⟩)] 24)).alloc (.cells #[.int .i64 f] 3)).heap[w.heap.size + 1]? = some (.cells #[.int .i64 f] 3 (0, 0)) := by
      have := heap_alloc_new (w.alloc (.cells #[.pointer (some ⟨g, 0, none⟩)] 24)) (.cells #[.int .i64 f] 3)
      simpa using this
    go_enter Try.func15, Try.ntmps15
    go_wp2_with fail
    refine (wrong_calls h1 f).mono ?_
    rintro e w' ⟨rfl, rfl⟩
    go_wp2_with fail
    refine (change_calls h1 ok f 54 _ (d.step.put ⟨f, sAt d.files f, (sAt d.files f).size⟩) runs54 ?_).mono ?_
    rotate_left
    · rintro e w3 ⟨rfl, h3, k3⟩
      go_wp2
      go_ret
      exact ⟨by rw [E1.out]; rfl, by rw [E2.out]; exact h3, hf1.none_.then_ k3 (fun _ _ h => h)⟩
    · intro w2 o k2 h2
      refine (sync1_calls (d := d.step) (h2.alloc o) (alloc_old (k2.keep hbd ?_) o) f (alloc_old (k2.keep hbf ?_) o) _ _ (by have := ok.step; exact this) hsl).mono ?_
      · rintro (e | e) <;> omega
      · rintro (e | e) <;> omega
      · rintro e w3 ⟨rfl, h3, k3⟩
        exact ⟨rfl, h3, k3⟩
  · have hb : (d.wrong f != 0) = true := by simpa using hw
    have e1 : d.changeE f = d.wrong f := by unfold Dk.changeE; rw [if_pos hw]
    have e2 : d.sync f = d := by unfold Dk.sync; rw [if_pos hw]
    have E1 := Lib.hid e1; have E2 := Lib.hid e2; clear e1 e2
    have h1 := (h.alloc (.cells #[.pointer (some ⟨g, 0, none⟩)] 24)).alloc (.cells #[.int .i64 f] 3)
    go_enter Try.func15, Try.ntmps15
    go_wp2_with (first | (go_at_call 51; refine (wrong_calls h1 f).mono ?_; rintro e w' ⟨rfl, rfl⟩))
    go_ret
    exact ⟨by rw [E1.out]; rfl, by rw [E2.out]; exact h1, ((Fr.refl _ w).alloc _).alloc _⟩
end Go.Proofs.Ytljfagagopaidaa

/- The disk's Drop and its function literal, walked. -/
namespace Go.Proofs.Ytljfagagopaidaa
open Go.RowKit
set_option linter.unusedSimpArgs false
set_option linter.unusedVariables false

def Dk.del (d : Dk) (f : Int) : Dk := { d with files := Ytljfagagopaidaa.drop d.files f }

theorem DiskAt.del_turned {w w2 : World} {g m : Nat} {d : Dk} {f : Int} {o : Obj} (h : DiskAt w g m d) (ht : Turned (w.alloc o).drew w2 m) (hm : MapIs w2 m (drop d.files f)) : DiskAt w2 g m (d.del f) :=
  ⟨(ht.block g h.ne.symm).trans (alloc_old h.blk o), hm⟩

set_option maxRecDepth 100000 in
set_option maxHeartbeats 400000 in
theorem drop1_calls {w : World} {g m bd bf : Nat} {d : Dk} (h : DiskAt w g m d) (hd : w.heap[bd]? = some (.cells #[.pointer (some ⟨g, 0, none⟩)] 24 (0, 0))) (f : Int) (hf : w.heap[bf]? = some (.cells #[.int .i64 f] 3 (0, 0)))
    (s : ByteArray) (n : Int) :
    Calls Try.prog 59 #[.agg #[.string s, .int .i64 n], .pointer (some ⟨bd, 0, none⟩), .pointer (some ⟨bf, 0, none⟩)] w fun e w' => e = .returned (.tuple #[]) ∧ DiskAt w' g m (d.del f) ∧ Fr (Two g m) w w' := by
  have c0 : ∀ o, (w.alloc o).cell? ⟨g, 0, none⟩ = some (.map (some m)) := fun o => (cell_blk (alloc_old h.blk o) 0).trans rfl
  have cd : ∀ o, (w.alloc o).cell? ⟨bd, 0, none⟩ = some (.pointer (some ⟨g, 0, none⟩)) := fun o => (cell_blk (alloc_old hd o) 0).trans rfl
  have cf : ∀ o, (w.alloc o).cell? ⟨bf, 0, none⟩ = some (.int .i64 f) := fun o => (cell_blk (alloc_old hf o) 0).trans rfl
  go_enter Try.func59, Try.ntmps59
  go_wp2
  refine wp_tail 5 (by kernel_rfl) (by kernel_rfl) ?_
  simp only [List.take_succ_cons, List.take_zero, List.drop_succ_cons, List.drop_zero]
  repeat still_step
  refine wpStill_nil ?_
  refine wp_delete rfl _ _ f rfl ((h.map.alloc _).drew) (by rfl) (by rfl) ?_
  intro w2 hm2 ht2
  have h2 := h.del_turned ht2 hm2
  have k2 : Fr (Two g m) w w2 := (Fr.refl _ _).put_turned ht2
  go_wp2
  go_end0
  exact ⟨rfl, h2, k2⟩

def Dk.dropped (d : Dk) (f : Int) : Dk := if d.wrong f ≠ 0 then d else d.changed f (d.step.del f)

set_option maxRecDepth 100000 in
set_option maxHeartbeats 400000 in
theorem drop_calls {w : World} {g m : Nat} {d : Dk} (h : DiskAt w g m d) (ok : d.Ok) (f : Int) :
    Calls Try.prog 26 #[.pointer (some ⟨g, 0, none⟩), .int .i64 f] w fun e w' => e = .returned (.int .i64 (d.changeE f)) ∧ DiskAt w' g m (d.dropped f) ∧ Fr (Two g m) w w' := by
  have hlt := lt_blk h.blk
  have hlm := h.map.lt
  by_cases hw : d.wrong f = 0
  · have hb : (d.wrong f != 0) = false := by simpa using hw
    have e1 : d.changeE f = d.stepE := by unfold Dk.changeE; rw [if_neg (by simp [hw])]
    have e2 : d.dropped f = d.changed f (d.step.del f) := by unfold Dk.dropped; rw [if_neg (by simp [hw])]
    have E1 := Lib.hid e1; have E2 := Lib.hid e2; clear e1 e2
    have Hw := Lib.hid hw; clear hw
    have h1 := (h.alloc (.cells #[.pointer (some ⟨g, 0, none⟩)] 24)).alloc (.cells #[.int .i64 f] 3)
    have hf1 : Fr (fun _ => False) w ((w.alloc (.cells #[.pointer (some ⟨g, 0, none⟩)] 24)).alloc (.cells #[.int .i64 f] 3)) := ((Fr.refl _ w).alloc _).alloc _
    have hbd : ((w.alloc (.cells #[.pointer (some ⟨g, 0, none⟩)] 24)).alloc (.cells #[.int .i64 f] 3)).heap[w.heap.size]? = some (.cells #[.pointer (some ⟨g, 0, none⟩)] 24 (0, 0)) := alloc_old (heap_alloc_new _ _) _
    have hbf : ((w.alloc (.cells #[.pointer (some ⟨g, 0, none⟩)] 24)).alloc (.cells #[.int .i64 f] 3)).heap[w.heap.size + 1]? = some (.cells #[.int .i64 f] 3 (0, 0)) := by
      have := heap_alloc_new (w.alloc (.cells #[.pointer (some ⟨g, 0, none⟩)] 24)) (.cells #[.int .i64 f] 3)
      simpa using this
    go_enter Try.func26, Try.ntmps26
    go_wp2_with fail
    refine (wrong_calls h1 f).mono ?_
    rintro e w' ⟨rfl, rfl⟩
    go_wp2_with fail
    refine (change_calls h1 ok f 59 _ (d.step.del f) runs59 ?_).mono ?_
    rotate_left
    · rintro e w3 ⟨rfl, h3, k3⟩
      go_wp2
      go_ret
      exact ⟨by rw [E1.out]; rfl, by rw [E2.out]; exact h3, hf1.none_.then_ k3 (fun _ _ h => h)⟩
    · intro w2 o k2 h2
      refine (drop1_calls (d := d.step) (h2.alloc o) (alloc_old (k2.keep hbd ?_) o) f (alloc_old (k2.keep hbf ?_) o) _ _).mono ?_
      · rintro (e | e) <;> omega
      · rintro (e | e) <;> omega
      · rintro e w3 ⟨rfl, h3, k3⟩
        exact ⟨rfl, h3, k3⟩
  · have hb : (d.wrong f != 0) = true := by simpa using hw
    have e1 : d.changeE f = d.wrong f := by unfold Dk.changeE; rw [if_pos hw]
    have e2 : d.dropped f = d := by unfold Dk.dropped; rw [if_pos hw]
    have E1 := Lib.hid e1; have E2 := Lib.hid e2; clear e1 e2
    have h1 := (h.alloc (.cells #[.pointer (some ⟨g, 0, none⟩)] 24)).alloc (.cells #[.int .i64 f] 3)
    go_enter Try.func26, Try.ntmps26
    go_wp2_with (first | (go_at_call 51; refine (wrong_calls h1 f).mono ?_; rintro e w' ⟨rfl, rfl⟩))
    go_ret
    exact ⟨by rw [E1.out]; rfl, by rw [E2.out]; exact h1, ((Fr.refl _ w).alloc _).alloc _⟩
end Go.Proofs.Ytljfagagopaidaa

/- The disk's small methods that read, arm, tell; and New. -/
namespace Go.Proofs.Ytljfagagopaidaa
open Go.RowKit
set_option linter.unusedSimpArgs false
set_option linter.unusedVariables false

theorem field77 (s : ByteArray) (n : Int) (W : World) : (Instr.field 77 (.agg #[.string s, .int .i64 n]) 0).run Try.prog W = .ok (.string s) W := by kernel_rfl

def Dk.readS (d : Dk) (f : Int) : ByteArray := if d.wrong f ≠ 0 then ⟨#[]⟩ else sAt d.files f

set_option maxRecDepth 100000 in
set_option maxHeartbeats 400000 in
theorem read_calls {w : World} {g m : Nat} {d : Dk} (h : DiskAt w g m d) (f : Int) :
    Calls Try.prog 17 #[.pointer (some ⟨g, 0, none⟩), .int .i64 f] w fun e w' => e = .returned (.tuple #[.string (d.readS f), .int .i64 (d.wrong f)]) ∧ w = w' := by
  have c0 : w.cell? ⟨g, 0, none⟩ = some (.map (some m)) := (cell_blk h.blk 0).trans rfl
  by_cases hw : d.wrong f = 0
  · have hb : (d.wrong f != 0) = false := by simpa using hw
    have e1 : d.readS f = sAt d.files f := by unfold Dk.readS; rw [if_neg (by simp [hw])]
    have E1 := Lib.hid e1; clear e1
    have Hw := Lib.hid hw; clear hw
    have hfl := field77 (sAt d.files f) (nAt d.files f)
    go_enter Try.func17, Try.ntmps17
    go_wp2_with (first | (go_at_call 51; refine (wrong_calls h f).mono ?_; rintro e w' ⟨rfl, rfl⟩) | (at_lookup; refine wp_lookup rfl _ _ f rfl h.map rfl rfl ?_) | go_in)
    go_ret2
    exact ⟨by rw [E1.out, Hw.out]; rfl, rfl⟩
  · have hb : (d.wrong f != 0) = true := by simpa using hw
    have e1 : d.readS f = ⟨#[]⟩ := by unfold Dk.readS; rw [if_pos hw]
    have E1 := Lib.hid e1; clear e1
    go_enter Try.func17, Try.ntmps17
    go_wp2_with (first | (go_at_call 51; refine (wrong_calls h f).mono ?_; rintro e w' ⟨rfl, rfl⟩))
    go_ret2
    exact ⟨by rw [E1.out]; rfl, rfl⟩

def Dk.arm (d : Dk) (n : Int) : Dk := { d with armed := if 0 ≤ n then n else 0 }

set_option maxRecDepth 100000 in
set_option maxHeartbeats 400000 in
theorem arm_calls {w : World} {g m : Nat} {d : Dk} (h : DiskAt w g m d) (n : Int) :
    Calls Try.prog 18 #[.pointer (some ⟨g, 0, none⟩), .int .i64 n] w fun e w' => e = .returned (.tuple #[]) ∧ DiskAt w' g m (d.arm n) ∧ Fr (Two g m) w w' := by
  have f2 := free_blk h.blk 2
  have c2 : w.cell? ⟨g, 2, none⟩ = some (.int .i64 d.armed) := (cell_blk h.blk 2).trans rfl
  have hat : ∀ a, DiskAt (w.setCell ⟨g, 2, none⟩ (.int .i64 a)) g m { d with armed := a } := fun a =>
    ⟨by simpa using set_blk h.blk 2 (.int .i64 a), h.map.setCell h.ne _⟩
  have hfr : ∀ a, Fr (Two g m) w (w.setCell ⟨g, 2, none⟩ a) := fun a => (Fr.refl _ w).setCell (fun _ => .inl rfl) _
  by_cases hn : 0 ≤ n
  · have e1 : d.arm n = { d with armed := n } := by unfold Dk.arm; rw [if_pos hn]
    have E1 := Lib.hid e1; clear e1
    go_enter Try.func18, Try.ntmps18
    go_wp2
    go_end0
    exact ⟨rfl, by rw [E1.out]; exact hat _, hfr _⟩
  · have e1 : d.arm n = { d with armed := 0 } := by unfold Dk.arm; rw [if_neg hn]
    have E1 := Lib.hid e1; clear e1
    go_enter Try.func18, Try.ntmps18
    go_wp2
    go_end0
    exact ⟨rfl, by rw [E1.out]; exact hat _, hfr _⟩

theorem dead_calls {w : World} {g m : Nat} {d : Dk} (h : DiskAt w g m d) :
    Calls Try.prog 19 #[.pointer (some ⟨g, 0, none⟩)] w fun e w' => e = .returned (.bool d.dead) ∧ w = w' := by
  have c3 : w.cell? ⟨g, 3, none⟩ = some (.bool d.dead) := (cell_blk h.blk 3).trans rfl
  go_enter Try.func19, Try.ntmps19
  go_wp2
  go_ret
  exact ⟨rfl, rfl⟩

theorem steps_calls {w : World} {g m : Nat} {d : Dk} (h : DiskAt w g m d) :
    Calls Try.prog 37 #[.pointer (some ⟨g, 0, none⟩)] w fun e w' => e = .returned (.int .i64 d.steps) ∧ w = w' := by
  have c4 : w.cell? ⟨g, 4, none⟩ = some (.int .i64 d.steps) := (cell_blk h.blk 4).trans rfl
  go_enter Try.func37, Try.ntmps37
  go_wp2
  go_ret
  exact ⟨rfl, rfl⟩

def Dk.new (limit : Int) : Dk := ⟨[], limit, 0, false, 0⟩

set_option maxRecDepth 100000 in
set_option maxHeartbeats 400000 in
theorem new_calls (w : World) (n : Int) (h1 : 1 ≤ n) (h2 : n ≤ 16777216) :
    Calls Try.prog 12 #[.int .i64 n] w fun e w' => e = .returned (.tuple #[.pointer (some ⟨w.heap.size + 1, 0, none⟩), .int .i64 0]) ∧ DiskAt w' (w.heap.size + 1) w.heap.size (Dk.new n) ∧ Fr (fun _ => False) w w' ∧ w'.heap.size = w.heap.size + 2 := by
  have hmm := @run_makeMap Try.prog
  go_enter Try.func12, Try.ntmps12
  go_wp2
  go_ret2
  refine ⟨rfl, ⟨?_, (MapIs.made w).alloc _⟩, ((Fr.refl _ w).alloc _).alloc _, by simp⟩
  have := heap_alloc_new (w.alloc (.map #[] 0)) (.cells #[.map (some w.heap.size), .int .i64 n, .int .i64 0, .bool false, .int .i64 0] 75)
  simpa [Dk.new] using this

set_option maxRecDepth 100000 in
set_option maxHeartbeats 400000 in
theorem new_wrong (w : World) (n : Int) (h : n < 1 ∨ 16777216 < n) :
    Calls Try.prog 12 #[.int .i64 n] w fun e w' => e = .returned (.tuple #[.pointer none, .int .i64 1]) ∧ w = w' := by
  rcases h with h | h
  · go_enter Try.func12, Try.ntmps12
    go_wp2
    go_ret2
    exact ⟨rfl, rfl⟩
  · have h' : ¬ n < 1 := by omega
    go_enter Try.func12, Try.ntmps12
    go_wp2
    go_ret2
    exact ⟨rfl, rfl⟩
end Go.Proofs.Ytljfagagopaidaa

/- The disk's Cut and its function literal, walked. -/
namespace Go.Proofs.Ytljfagagopaidaa
open Go.RowKit
set_option linter.unusedSimpArgs false
set_option linter.unusedVariables false

/-- The first n bytes. -/
def cutS (s : ByteArray) (n : Int) : ByteArray := s.extract 0 n.toNat

set_option maxRecDepth 100000 in
set_option maxHeartbeats 400000 in
theorem cut1_calls {w : World} {g m bs bd bf : Nat} {d : Dk} (h : DiskAt w g m d) (hd : w.heap[bd]? = some (.cells #[.pointer (some ⟨g, 0, none⟩)] 24 (0, 0))) (f k : Int) (hf : w.heap[bf]? = some (.cells #[.int .i64 f] 3 (0, 0))) (hk : w.heap[bs]? = some (.cells #[.int .i64 k] 3 (0, 0)))
    (s : ByteArray) (n : Int) (hm : d.files.length < 1048576) (hs : s.size ≤ 140737488355328) (hk0 : 0 ≤ k) (hk1 : k ≤ s.size) :
    Calls Try.prog 58 #[.agg #[.string s, .int .i64 n], .pointer (some ⟨bs, 0, none⟩), .pointer (some ⟨bd, 0, none⟩), .pointer (some ⟨bf, 0, none⟩)] w fun e w' => e = .returned (.tuple #[]) ∧ DiskAt w' g m (d.put ⟨f, cutS s k, k⟩) ∧ Fr (Two g m) w w' := by
  have Hm := Lib.hid hm; clear hm
  have c0 : ∀ o, (w.alloc o).cell? ⟨g, 0, none⟩ = some (.map (some m)) := fun o => (cell_blk (alloc_old h.blk o) 0).trans rfl
  have cd : ∀ o, (w.alloc o).cell? ⟨bd, 0, none⟩ = some (.pointer (some ⟨g, 0, none⟩)) := fun o => (cell_blk (alloc_old hd o) 0).trans rfl
  have cf : ∀ o, (w.alloc o).cell? ⟨bf, 0, none⟩ = some (.int .i64 f) := fun o => (cell_blk (alloc_old hf o) 0).trans rfl
  have cs : ∀ o, (w.alloc o).cell? ⟨bs, 0, none⟩ = some (.int .i64 k) := fun o => (cell_blk (alloc_old hk o) 0).trans rfl
  go_enter Try.func58, Try.ntmps58
  go_wp2
  refine wp_tail 11 (by kernel_rfl) (by kernel_rfl) ?_
  simp only [List.take_succ_cons, List.take_zero, List.drop_succ_cons, List.drop_zero]
  repeat still_step
  refine wpStill_nil ?_
  refine wp_update rfl _ _ _ ⟨f, cutS s k, k⟩ rfl ((h.map.alloc _).drew) Hm.out (by rfl) (by rfl) (by rfl) ?_
  intro w2 hm2 ht2
  have h2 := h.put_turned ht2 hm2
  have k2 : Fr (Two g m) w w2 := (Fr.refl _ _).put_turned ht2
  go_wp2
  go_end0
  exact ⟨rfl, h2, k2⟩

def Dk.cutE (d : Dk) (f k : Int) : Int := if d.wrong f ≠ 0 then d.wrong f else if k < 0 then 1 else if ((sAt d.files f).size : Int) < k then 1 else d.stepE
def Dk.cut (d : Dk) (f k : Int) : Dk := if d.wrong f ≠ 0 then d else if k < 0 then d else if ((sAt d.files f).size : Int) < k then d else d.changed f (d.step.put ⟨f, cutS (sAt d.files f) k, k⟩)

theorem Dk.cut_wrong {d : Dk} {f : Int} (k : Int) (h : d.wrong f ≠ 0) : d.cutE f k = d.wrong f ∧ d.cut f k = d := by
  unfold Dk.cutE Dk.cut
  rw [if_pos h, if_pos h]
  exact ⟨rfl, rfl⟩
theorem Dk.cut_neg {d : Dk} {f k : Int} (h : d.wrong f = 0) (h2 : k < 0) : d.cutE f k = 1 ∧ d.cut f k = d := by
  have h' : ¬ (d.wrong f ≠ 0) := by simp [h]
  unfold Dk.cutE Dk.cut
  rw [if_neg h', if_neg h', if_pos h2, if_pos h2]
  exact ⟨rfl, rfl⟩
theorem Dk.cut_long {d : Dk} {f k : Int} (h : d.wrong f = 0) (h2 : 0 ≤ k) (h3 : ((sAt d.files f).size : Int) < k) : d.cutE f k = 1 ∧ d.cut f k = d := by
  have h' : ¬ (d.wrong f ≠ 0) := by simp [h]
  have h2' : ¬ k < 0 := by omega
  unfold Dk.cutE Dk.cut
  rw [if_neg h', if_neg h', if_neg h2', if_neg h2', if_pos h3, if_pos h3]
  exact ⟨rfl, rfl⟩
theorem Dk.cut_goes {d : Dk} {f k : Int} (h : d.wrong f = 0) (h2 : 0 ≤ k) (h3 : k ≤ ((sAt d.files f).size : Int)) : d.cutE f k = d.stepE ∧ d.cut f k = d.changed f (d.step.put ⟨f, cutS (sAt d.files f) k, k⟩) := by
  have h' : ¬ (d.wrong f ≠ 0) := by simp [h]
  have h2' : ¬ k < 0 := by omega
  have h3' : ¬ ((sAt d.files f).size : Int) < k := by omega
  unfold Dk.cutE Dk.cut
  rw [if_neg h', if_neg h', if_neg h2', if_neg h2', if_neg h3', if_neg h3']
  exact ⟨rfl, rfl⟩

set_option maxRecDepth 100000 in
set_option maxHeartbeats 400000 in
theorem cut_calls {w : World} {g m : Nat} {d : Dk} (h : DiskAt w g m d) (ok : d.Ok) (f k : Int) :
    Calls Try.prog 24 #[.pointer (some ⟨g, 0, none⟩), .int .i64 f, .int .i64 k] w fun e w' => e = .returned (.int .i64 (d.cutE f k)) ∧ DiskAt w' g m (d.cut f k) ∧ Fr (Two g m) w w' := by
  have hlt := lt_blk h.blk
  have hlm := h.map.lt
  have hsl : (sAt d.files f).size ≤ 140737488355328 := Nat.le_trans (ok.sAt f) (by omega)
  obtain ⟨W, hW⟩ : ∃ W, W = ((w.alloc (.cells #[.pointer (some ⟨g, 0, none⟩)] 24)).alloc (.cells #[.int .i64 f] 3)).alloc (.cells #[.int .i64 k] 3) := ⟨_, rfl⟩
  have h1 : DiskAt W g m d := by rw [hW]; exact ((h.alloc _).alloc _).alloc _
  have hf1 : Fr (fun _ => False) w W := by rw [hW]; exact (((Fr.refl _ w).alloc _).alloc _).alloc _
  have hbd : W.heap[w.heap.size]? = some (.cells #[.pointer (some ⟨g, 0, none⟩)] 24 (0, 0)) := by rw [hW]; exact alloc_old (alloc_old (heap_alloc_new _ _) _) _
  have hbf : W.heap[w.heap.size + 1]? = some (.cells #[.int .i64 f] 3 (0, 0)) := by
    have := heap_alloc_new (w.alloc (.cells #[.pointer (some ⟨g, 0, none⟩)] 24)) (.cells #[.int .i64 f] 3)
    rw [hW]
    exact alloc_old (by simpa using this) _
  have hbk : W.heap[w.heap.size + 2]? = some (.cells #[.int .i64 k] 3 (0, 0)) := by
    have := heap_alloc_new ((w.alloc (.cells #[.pointer (some ⟨g, 0, none⟩)] 24)).alloc (.cells #[.int .i64 f] 3)) (.cells #[.int .i64 k] 3)
    rw [hW]
    simpa using this
  by_cases hw : d.wrong f = 0
  · have hb : (d.wrong f != 0) = false := by simpa using hw
    have Hw := Lib.hid hw; clear hw
    have HW := Lib.hid hW; clear hW
    have hlk : ∀ n, (Instr.lookup 73 (.map (some m)) (.int .i64 f) false).run Try.prog (W.drewN n) = .ok (.agg #[.string (sAt d.files f), .int .i64 (nAt d.files f)]) (W.drewN n) := by
      intro n
      have := (h1.map.of_block (w' := W.drewN n) rfl).lookup f
      rwa [atKey_eq] at this
    have hfl := field77 (sAt d.files f) (nAt d.files f)
    have cd : W.cell? ⟨w.heap.size, 0, none⟩ = some (.pointer (some ⟨g, 0, none⟩)) := (cell_blk hbd 0).trans rfl
    have cf : W.cell? ⟨w.heap.size + 1, 0, none⟩ = some (.int .i64 f) := (cell_blk hbf 0).trans rfl
    have ck : W.cell? ⟨w.heap.size + 2, 0, none⟩ = some (.int .i64 k) := (cell_blk hbk 0).trans rfl
    have c0 : W.cell? ⟨g, 0, none⟩ = some (.map (some m)) := (cell_blk h1.blk 0).trans rfl
    rcases Int.lt_or_le k 0 with hk | hk
    · have Hk := Lib.hid hk
      have hk1 : decide (k < 0) = true := decide_eq_true hk
      go_enter Try.func24, Try.ntmps24
      go_wp2_with fail
      rw [← HW.out]
      refine (wrong_calls h1 f).mono ?_
      rintro e w' ⟨rfl, rfl⟩
      go_wp2_with fail
      go_quiet (fail)
      go_wp2
      go_ret
      exact ⟨by rw [(Dk.cut_neg Hw.out Hk.out).1]; rfl, by rw [(Dk.cut_neg Hw.out Hk.out).2]; exact h1.fr ((Fr.refl (fun _ => False) _).drewN _) id id, hf1.none_.drewN _⟩
    · have Hk := Lib.hid hk
      have hk1 : decide (k < 0) = false := decide_eq_false (by omega)
      clear hk
      rcases Int.lt_or_le ((sAt d.files f).size : Int) k with hl | hl
      · have Hl := Lib.hid hl
        have hl1 : decide (((sAt d.files f).size : Int) < k) = true := decide_eq_true hl
        go_enter Try.func24, Try.ntmps24
        go_wp2_with fail
        rw [← HW.out]
        refine (wrong_calls h1 f).mono ?_
        rintro e w' ⟨rfl, rfl⟩
        go_wp2_with fail
        go_quiet (fail)
        go_wp2
        go_ret
        exact ⟨by rw [(Dk.cut_long Hw.out Hk.out Hl.out).1]; rfl, by rw [(Dk.cut_long Hw.out Hk.out Hl.out).2]; exact h1.fr ((Fr.refl (fun _ => False) _).drewN _) id id, hf1.none_.drewN _⟩
      · have Hl := Lib.hid hl
        have hl1 : decide (((sAt d.files f).size : Int) < k) = false := decide_eq_false (by omega)
        clear hl
        go_enter Try.func24, Try.ntmps24
        go_wp2_with fail
        rw [← HW.out]
        refine (wrong_calls h1 f).mono ?_
        rintro e w' ⟨rfl, rfl⟩
        go_wp2_with fail
        go_quiet (fail)
        go_wp2_with fail
        refine (change_calls (h1.fr ((Fr.refl (fun _ => False) _).drewN _) id id) ok f 58 _ (d.step.put ⟨f, cutS (sAt d.files f) k, k⟩) runs58 ?_).mono ?_
        rotate_left
        · rintro e w3 ⟨rfl, h3, k3⟩
          go_wp2
          go_ret
          exact ⟨by rw [(Dk.cut_goes Hw.out Hk.out Hl.out).1]; rfl, by rw [(Dk.cut_goes Hw.out Hk.out Hl.out).2]; exact h3, (hf1.drewN _).none_.then_ k3 (fun _ _ h => h)⟩
        · intro w2 o k2 h2
          refine (cut1_calls (d := d.step) (h2.alloc o) (alloc_old (k2.keep (drewN_blk hbd _) ?_) o) f k (alloc_old (k2.keep (drewN_blk hbf _) ?_) o) (alloc_old (k2.keep (drewN_blk hbk _) ?_) o) _ _ (by have := ok.step; exact this) hsl Hk.out Hl.out).mono ?_
          · rintro (e | e) <;> omega
          · rintro (e | e) <;> omega
          · rintro (e | e) <;> omega
          · rintro e w3 ⟨rfl, h3, k3⟩
            exact ⟨rfl, h3, k3⟩
  · have hb : (d.wrong f != 0) = true := by simpa using hw
    have Hw := Lib.hid hw; clear hw
    have HW := Lib.hid hW; clear hW
    go_enter Try.func24, Try.ntmps24
    go_wp2_with fail
    rw [← HW.out]
    refine (wrong_calls h1 f).mono ?_
    rintro e w' ⟨rfl, rfl⟩
    go_wp2
    go_ret
    exact ⟨by rw [(Dk.cut_wrong k Hw.out).1]; rfl, by rw [(Dk.cut_wrong k Hw.out).2]; exact h1, hf1.none_⟩
end Go.Proofs.Ytljfagagopaidaa
