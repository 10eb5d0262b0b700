/- The map laws at the operations of a walk, and the loop over a map. -/
import Derived.Test.YtljfagagopaidaaFr
import Derived.Test.YtljfagagopaidaaMap
import Derived.Maps.RangeWalk
import Derived.Maps.OwnOps
namespace Go.Proofs.Ytljfagagopaidaa
open Go.RowKit
open Go.ChangeMaps (setBlock)
set_option linter.unusedSimpArgs false
set_option linter.unusedVariables false

theorem Turned.fr {w w' : World} {m : Nat} (h : Turned w w' m) : Fr (· = m) w w' := ⟨h.os, h.tape, h.output, by rw [h.size]; exact Nat.le_refl _, fun k _ hn => h.block k hn⟩

section
variable {w : World} {ops : Array Oper} {rest : List Oper} {o : Oper} {a : Act} {Q : Exit → Act → World → Prop} {m : Nat} {l : List Fl}

/-- The bytes at a key, and how many are synced; of none: none. -/
def sAt (l : List Fl) (k : Int) : ByteArray := ((look l k).map Fl.s).getD ⟨#[]⟩
def nAt (l : List Fl) (k : Int) : Int := ((look l k).map Fl.n).getD 0
theorem atKey_eq (l : List Fl) (k : Int) : ((look l k).map Fl.val).getD zeroVal = .agg #[.string (sAt l k), .int .i64 (nAt l k)] := by
  unfold sAt nAt
  cases look l k <;> rfl

theorem wp_lookup (hg : o.guard = none) (mo ko : Operand) (k : Int) (hop : o.op = Op.lookup 73 mo ko false) (h : MapIs w m l) (hm : a.eval mo = .map (some m)) (hk : a.eval ko = .int .i64 k)
    (hK : wpList Try.prog ops Q rest (a.put o.dst (.agg #[.string (sAt l k), .int .i64 (nAt l k)])) w) : wpList Try.prog ops Q (o :: rest) a w := by
  refine wpList_plain hg fun K' hK' => ?_
  have hrun := h.lookup k
  rw [atKey_eq] at hrun
  unfold Oper.wp
  simp [execOp, hop, hm, hk, hrun, Result.andThen]
  exact hK' _ _ hK

theorem wp_lookup_ok (hg : o.guard = none) (mo ko : Operand) (k : Int) (hop : o.op = Op.lookup 73 mo ko true) (h : MapIs w m l) (hm : a.eval mo = .map (some m)) (hk : a.eval ko = .int .i64 k)
    (hK : wpList Try.prog ops Q rest (a.put o.dst (.tuple #[.agg #[.string (sAt l k), .int .i64 (nAt l k)], .bool (look l k).isSome])) w) : wpList Try.prog ops Q (o :: rest) a w := by
  refine wpList_plain hg fun K' hK' => ?_
  have hrun := h.lookup_ok k
  rw [atKey_eq] at hrun
  unfold Oper.wp
  simp [execOp, hop, hm, hk, hrun, Result.andThen]
  exact hK' _ _ hK

theorem wp_update (hg : o.guard = none) (mo ko vo : Operand) (x : Fl) (hop : o.op = Op.mapUpdate 73 mo ko vo) (h : MapIs w m l) (hl : l.length < 1048576) (hm : a.eval mo = .map (some m)) (hk : a.eval ko = .int .i64 x.k) (hv : a.eval vo = .agg #[.string x.s, .int .i64 x.n])
    (hK : ∀ w', MapIs w' m (lay l x) → Turned w w' m → wpList Try.prog ops Q rest (a.put o.dst undef) w') : wpList Try.prog ops Q (o :: rest) a w := by
  refine wpList_plain hg fun K' hK' => ?_
  obtain ⟨w', hrun, h1, h2⟩ := h.update x hl
  unfold Fl.val at hrun
  unfold Oper.wp
  simp [execOp, hop, hm, hk, hv, hrun, Result.andThen]
  exact hK' _ _ (hK w' h1 h2)

theorem wp_delete (hg : o.guard = none) (mo ko : Operand) (k : Int) (hop : o.op = Op.call { callee := Callee.builtin Builtin.delete, args := #[mo, ko], argTypes := #[73, 3] }) (h : MapIs w m l) (hm : a.eval mo = .map (some m)) (hk : a.eval ko = .int .i64 k)
    (hK : ∀ w', MapIs w' m (drop l k) → Turned w w' m → wpList Try.prog ops Q rest (a.put o.dst (.tuple #[])) w') : wpList Try.prog ops Q (o :: rest) a w := by
  refine wpList_plain hg fun K' hK' => ?_
  obtain ⟨w', hrun, h1, h2⟩ := h.delete k o.type
  unfold Oper.wp
  simp [execOp, hop, resolve, invoke, builtin, hm, hk, hrun, Result.andThen]
  exact hK' _ _ (hK w' h1 h2)

/-- An iterator at block r over the map at block m: the files of 'left' are still to come. -/
def Ranges (w : World) (r m : Nat) (l left : List Fl) : Prop :=
  ∃ es clock seen, w.heap[m]? = some (.map es clock) ∧ EntriesAre es clock l ∧ w.heap[r]? = some (.mapIter (some m) clock seen clock) ∧ (left.map Fl.pair).Perm ((leftOf es seen).toList.map fun e => (e.key, e.val))

theorem Fl.pair_inj {x y : Fl} (h : x.pair = y.pair) : x = y := by
  cases x; cases y
  simp [Fl.pair, Fl.val] at h
  simp [h]

theorem Ranges.fr {w' : World} {r : Nat} {left : List Fl} {S : Nat → Prop} (h : Ranges w r m l left) (k : Fr S w w') (hr : ¬ S r) (hm : ¬ S m) : Ranges w' r m l left := by
  obtain ⟨es, clock, seen, h1, H, h2, h3⟩ := h
  exact ⟨es, clock, seen, k.keep h1 hm, H, k.keep h2 hr, h3⟩

theorem filter_perm_cons (e : MapEntry) (seen : Array Nat) : ∀ (es : List MapEntry), (es.map (·.born)).Nodup → e ∈ es → seen.contains e.born = false →
    (es.filter fun x => !seen.contains x.born).Perm (e :: es.filter fun x => !(seen.push e.born).contains x.born)
  | x :: es, hn, he, hs => by
    have hn' := List.nodup_cons.1 hn
    rcases List.mem_cons.1 he with rfl | h
    · have h1 : ((seen.push e.born).contains e.born) = true := by rw [contains_push]; simp
      have h2 : es.filter (fun x => !seen.contains x.born) = es.filter (fun x => !(seen.push e.born).contains x.born) := List.filter_congr fun y hy => by
        rw [contains_push]
        have : y.born ≠ e.born := fun heq => hn'.1 (List.mem_map.2 ⟨y, hy, heq⟩)
        simp [this]
      simp only [List.filter_cons, hs, h1, Bool.not_false, if_true, Bool.not_true, Bool.false_eq_true, if_false, h2]
      exact List.Perm.refl _
    · have ih := filter_perm_cons e seen es hn'.2 h hs
      have hne : x.born ≠ e.born := fun heq => hn'.1 (List.mem_map.2 ⟨e, h, heq.symm⟩)
      have h1 : ((seen.push e.born).contains x.born) = seen.contains x.born := by rw [contains_push]; simp [hne]
      simp only [List.filter_cons, h1]
      cases hc : seen.contains x.born with
      | true => simpa using ih
      | false =>
        simp only [Bool.not_false, if_true]
        exact (ih.cons x).trans (List.Perm.swap _ _ _)

theorem wp_range (hg : o.guard = none) (mo : Operand) (hop : o.op = Op.range 73 mo) (h : MapIs w m l) (hm : a.eval mo = .map (some m))
    (hK : ∀ w', Ranges w' w.heap.size m l l → Fr (fun _ => False) w w' → w'.heap.size = w.heap.size + 1 → wpList Try.prog ops Q rest (a.put o.dst (.pointer (some ⟨w.heap.size, 0, none⟩))) w') : wpList Try.prog ops Q (o :: rest) a w := by
  refine wpList_plain hg fun K' hK' => ?_
  obtain ⟨es, clock, hb, H⟩ := h
  have hrun := run_range_map w 73 3 77 m es clock Try.underlying73 hb
  unfold Oper.wp
  simp [execOp, hop, hm, hrun, Result.andThen]
  refine hK' _ _ (hK _ ⟨es, clock, #[], alloc_old hb _, H, heap_alloc_new _ _, ?_⟩ ((Fr.refl _ w).alloc _) (by simp))
  rw [← H.same]
  have : leftOf es #[] = es := by unfold leftOf; simp
  rw [this]

theorem wp_next (hg : o.guard = none) (it : Operand) (hop : o.op = Op.next it false) {r : Nat} {left : List Fl} (h : Ranges w r m l left) (hit : a.eval it = .pointer (some ⟨r, 0, none⟩))
    (hDone : left = [] → wpList Try.prog ops Q rest (a.put o.dst (.tuple #[.bool false])) w)
    (hMore : ∀ (x : Fl) (left' : List Fl) (w' : World), left.Perm (x :: left') → Ranges w' r m l left' → Fr (· = r) w w' → w'.heap.size = w.heap.size →
      (Instr.entry (.pointer (some ⟨r, 0, none⟩))).run Try.prog w' = .ok (.tuple #[.int .i64 x.k, .agg #[.string x.s, .int .i64 x.n]]) w' → wpList Try.prog ops Q rest (a.put o.dst (.tuple #[.bool true, .int .i64 x.k, .agg #[.string x.s, .int .i64 x.n]])) w') :
    wpList Try.prog ops Q (o :: rest) a w := by
  refine wpList_plain hg fun K' hK' => ?_
  obtain ⟨es, clock, seen, hb, H, hr, hp⟩ := h
  unfold Oper.wp
  have hmr : m ≠ r := by rintro rfl; rw [hb] at hr; cases hr
  rcases run_next_at (P := Try.prog) w o.type r m clock clock seen es clock hr hb H.young (Nat.le_refl _) with ⟨h0, hrun⟩ | ⟨e, he, w1, hw1, hrun⟩
  · simp [execOp, hop, hit, hrun, Result.andThen]
    refine hK' _ _ (hDone ?_)
    have : leftOf es seen = #[] := Array.eq_empty_of_size_eq_zero h0
    rw [this] at hp
    have := hp.length_eq
    simpa using this
  · have hm := mem_left he
    -- the file of the entry
    have hmem : (e.key, e.val) ∈ left.map Fl.pair := hp.mem_iff.2 (List.mem_map_of_mem he)
    obtain ⟨x, hx, hxe⟩ := List.mem_map.1 hmem
    have hk : e.key = .int .i64 x.k := (congrArg Prod.fst hxe).symm
    have hv : e.val = x.val := (congrArg Prod.snd hxe).symm
    have hperm := filter_perm_cons e seen es.toList H.apart hm.1 hm.2
    have e1 : ∀ s : Array Nat, (leftOf es s).toList = es.toList.filter fun y => !s.contains y.born := fun s => by unfold leftOf; rw [Array.toList_filter]
    obtain ⟨l1, l2, rfl⟩ := List.append_of_mem hx
    simp [execOp, hop, hit, hrun, Result.andThen, hk, hv]
    have hf1 : Fr (fun _ => False) w w1 := by rcases hw1 with rfl | rfl; exact Fr.refl _ _; exact (Fr.refl _ _).drew
    have hs1 : w1.heap.size = w.heap.size := by rcases hw1 with rfl | rfl <;> rfl
    have hr1 : w1.heap[r]? = some (.mapIter (some m) clock seen clock) := hf1.keep hr id
    have hb1 : w1.heap[m]? = some (.map es clock) := hf1.keep hb id
    have hrlt : r < w1.heap.size := lt_blk hr1
    have hr2 : (setBlock w1 r (.mapIter (some m) clock (seen.push e.born) clock)).heap[r]? = some (.mapIter (some m) clock (seen.push e.born) clock) := by
      simp [ChangeMaps.setBlock, hrlt]
    have hoth : ∀ i, i ≠ r → (setBlock w1 r (.mapIter (some m) clock (seen.push e.born) clock)).heap[i]? = w1.heap[i]? := fun i hi => by
      simp [ChangeMaps.setBlock, Ne.symm hi]
    have hb2 := (hoth m hmr).trans hb1
    have hen := run_entry_at (P := Try.prog) _ r m clock seen es clock e hr2 hb2 hm.1 H.apart
    rw [hk, hv] at hen
    refine hK' _ _ (hMore x (l1 ++ l2) _ List.perm_middle ⟨es, clock, seen.push e.born, hb2, H, hr2, ?_⟩ ?_ ?_ hen)
    · have h3 : ((l1 ++ x :: l2).map Fl.pair).Perm (x.pair :: (l1 ++ l2).map Fl.pair) := by
        simp only [List.map_append, List.map_cons]; exact List.perm_middle
      have h4 := h3.symm.trans hp
      rw [e1] at h4
      have h5 := h4.trans (hperm.map _)
      rw [List.map_cons, ← hxe] at h5
      rw [e1]
      exact (List.perm_cons _).1 h5
    · exact (hf1.mono (fun _ _ h => h.elim)).trans ⟨rfl, rfl, rfl, by simp [ChangeMaps.setBlock], fun i _ hi => hoth i hi⟩
    · simp [ChangeMaps.setBlock, hs1]
end

end Go.Proofs.Ytljfagagopaidaa
