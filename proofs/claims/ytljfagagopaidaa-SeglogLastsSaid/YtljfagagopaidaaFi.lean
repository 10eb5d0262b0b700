/- The disk's Files, walked. -/
import Derived.Test.YtljfagagopaidaaDb
import Derived.Test.YtljfagagopaidaaLay
namespace Go.Proofs.Ytljfagagopaidaa
open Go.RowKit Go.Maps Go.Sort Go.Shelf Go.Proofs.YtljfagagopaidaaW.PrintWords
set_option linter.unusedSimpArgs false
set_option linter.unusedVariables false

def sortZ (l : List Int) : List Int := l.mergeSort (fun a b => decide (a ≤ b))
def numbers (l : List Fl) : List Int := sortZ (l.map Fl.k)

def noElem (v : Value) : Option (DataW Unit × List MemPlace) := some (.nil, [])

def valInt : Value → Int
  | .int _ a => a
  | _ => 0

theorem MapIs.owns {w : World} {m : Nat} {l : List Fl} (h : MapIs w m l) (hk : ∀ x ∈ l, 0 ≤ x.k ∧ x.k < 65536) :
    ∃ D0 : DataW Unit, w.ownsMap Try.prog 3 noElem m l.length D0 ∧ (intKeys D0).Perm (l.map Fl.k) ∧ Maps.size D0 = l.length := by
  obtain ⟨es, clock, hb, H⟩ := h
  have hkey : ∀ e ∈ es.toList, ∃ x ∈ l, e.key = .int .i64 x.k := by
    intro e he
    have : (e.key, e.val) ∈ l.map Fl.pair := by rw [← H.same]; exact List.mem_map_of_mem he
    obtain ⟨x, hx, hxe⟩ := List.mem_map.1 this
    exact ⟨x, hx, (congrArg Prod.fst hxe).symm⟩
  have hwf : ∀ x ∈ l, (Lit.int .i64 x.k).wf = true := fun x hx => WalkArith.wf_i64 (by have := hk x hx; omega)
  have hrd : ∀ e ∈ es.toList, ∀ x ∈ l, e.key = .int .i64 x.k → WideElems.rd Try.prog 3 noElem e = some (.int .i64 x.k, .nil) := by
    intro e he x hx hke
    simp [WideElems.rd, hke, keyOf_int_mk Try.underlying3 (hwf x hx), noElem]
  have hst : MapKept.Stamped es clock := by
    rw [MapKept.stamped_iff]
    refine ⟨H.young, H.apart, ?_⟩
    have h1 : (es.toList.map (·.key)).Nodup := by
      have : es.toList.map (·.key) = l.map (fun x => .int .i64 x.k) := by
        have := congrArg (List.map Prod.fst) H.same
        simpa [List.map_map, Fl.pair, Function.comp_def] using this
      rw [this]
      have h2 : (l.map fun x => Value.int .i64 x.k) = (l.map Fl.k).map (Value.int .i64) := by rw [List.map_map]; rfl
      rw [h2]
      exact List.pairwise_map.2 (H.keys.imp (fun hne e => hne (by injection e)))
    rw [List.Nodup, List.pairwise_map] at h1
    exact h1
  refine ⟨_, ⟨es, clock, hb, ⟨Nat.le_of_lt H.small, hst, fun e he => ?_⟩, by rw [H.length]; exact Nat.le_refl _, rfl⟩, ?_, ?_⟩
  · obtain ⟨x, hx, hke⟩ := hkey e he
    exact ⟨_, hrd e he x hx hke⟩
  · have hp := WideShapes.sorted_perm (es.toList.map (WideElems.rg Try.prog 3 noElem))
    have h1 : ((((es.toList.map (WideElems.rg Try.prog 3 noElem)).foldr DataW.insert [])).map fun p => Go.intOf p.1).Perm ((es.toList.map (WideElems.rg Try.prog 3 noElem)).map fun p => Go.intOf p.1) := hp.map _
    refine h1.trans ?_
    have h2 : (es.toList.map (WideElems.rg Try.prog 3 noElem)).map (fun p => Go.intOf p.1) = es.toList.map (fun e => valInt e.key) := by
      rw [List.map_map]
      refine List.map_congr_left fun e he => ?_
      obtain ⟨x, hx, hke⟩ := hkey e he
      simp [WideElems.rg, hrd e he x hx hke, hke, Go.intOf, valInt]
    have h3 : es.toList.map (fun e => valInt e.key) = l.map Fl.k := by
      have := congrArg (List.map (fun p : Value × Value => valInt p.1)) H.same
      simpa [List.map_map, Fl.pair, Function.comp_def, valInt] using this
    rw [h2, h3]
  · show ((es.toList.map (WideElems.rg Try.prog 3 noElem)).foldr DataW.insert []).length = _
    rw [(WideShapes.sorted_perm _).length_eq, List.length_map, Array.length_toList, H.length]

theorem C_of_own {w : World} {base : Nat} {e : TypeId} {k : IntKind} {v : Value} {xs : List Int} (h : w.ownsRow base e 1 v xs.length (xs.map (Value.int k))) :
    ∃ A c, v = .slice A xs.length c ∧ xs.length ≤ c ∧ (Kd.int k).C w A xs.length xs ∧ ∀ a, A = some a → base ≤ a.block := by
  rcases h.2 with ⟨rfl, h0⟩ | ⟨g, cap, cur, rfl, hb, hh, hc, hm, _⟩
  · refine ⟨none, 0, by rw [h0], by omega, ⟨rfl, by omega, fun hn => by omega⟩, fun a ha => by cases ha⟩
  · refine ⟨_, cap, rfl, hc, ⟨rfl, by simp only [maxLen] at hm; omega, fun hn => ⟨_, rfl, fun j p hj => ⟨[.int k p], rfl, rfl, fun i u hu => ?_⟩⟩⟩, fun a ha => by injection ha with ha; rw [← ha]; exact hb⟩
    match i, hu with
    | 0, hu =>
      have hu' : Value.int k p = u := by simpa using hu
      subst hu'
      show w.cell? ((⟨g, 0, none⟩ : Addr).add (j * 1 + 0)) = _
      rw [Nat.mul_one, Nat.add_zero]
      exact h.cells (g := g) rfl j _ (by simp [hj])
    | i + 1, hu => simp at hu

set_option maxHeartbeats 1000000 in
theorem files_calls {w : World} {g m : Nat} {d : Dk} (h : DiskAt w g m d) (ok : d.Ok) :
    Calls Try.prog 32 #[.pointer (some ⟨g, 0, none⟩)] w fun e w' => ∃ A c, e = .returned (.slice A (numbers d.files).length c) ∧ (numbers d.files).length ≤ c ∧ (Kd.int .i64).C w' A (numbers d.files).length (numbers d.files) ∧ (∀ a, A = some a → w.heap.size ≤ a.block) ∧ Fr (fun _ => False) w w' := by
  obtain ⟨D0, hown, hperm, hsize⟩ := h.map.owns ok.keys
  have hmax : Maps.size D0 ≤ maxLen := by have := ok.many; rw [hsize]; unfold maxLen; omega
  have hbytes : Maps.size D0 * 8 ≤ 140737488355328 := by have := ok.many; rw [hsize]; omega
  have c0 : w.cell? ⟨g, 0, none⟩ = some (.map (some m)) := (cell_blk h.blk 0).trans rfl
  refine (callsIn_wide (n := 6)).1 ?_
  have hbl := hown.lt
  have hsorts : ∀ n : Nat, AnyZI.SortsIn Try.prog Try.sorted60_ren Fence.wide n := fun n =>
    ⟨fun blk off cap ss W hH hblk hsz => callsIn_wide.2 (Try.slices_Sort_int blk off cap ss W hH hblk hsz), fun p cap W => callsIn_wide.2 (Try.slices_Sort_int_none p cap W)⟩
  have hseq : SeqGives Fence.wide 2 Try.prog 76 #[.pointer (some ⟨w.heap.size, 0, none⟩)] encZ (fun ss => ss.Perm (intKeys D0)) (Maps.size D0) (w.alloc (.cells #[.map (some m)] 73)) :=
    AnyZI.keys_gives (ρ := Try.keys61_ren) { Try.keys61 with } Fence.wide _ trivial rfl (by omega) w.heap.size m d.files.length D0 _ (by simp) (by simp) (by
      obtain ⟨es, clock, hb, Ft, hs, hD⟩ := hown
      exact ⟨es, clock, (Below.heap_alloc _ _ m hbl).trans hb, Ft, hs, hD⟩)
  have cK : ∀ mb W, CallsIn Fence.wide 5 Try.prog 61 #[.map mb] W fun e w' => e = .returned (.func (.func 76) #[] #[.pointer (some ⟨W.heap.size, 0, none⟩)]) ∧ w' = W.alloc (.cells #[.map mb] 73) := fun mb W => AnyZI.keys_in Try.keys61 Fence.wide 5 trivial rfl mb W
  have cS := AnyZI.sorted_in Try.sorted60 Fence.wide 5 trivial trivial trivial trivial rfl (by omega) (hsorts _) (enters_of Try.func75 (by kernel_rfl) rfl) 76 #[.pointer (some ⟨w.heap.size, 0, none⟩)] trivial (enters_of Try.func76 (by kernel_rfl) rfl) _ _ hmax hbytes _ hseq
  change CallsIn _ _ Try.prog 60 _ _ _ at cS
  have hfK : Fence.wide.fn 61 := trivial
  have hfS : Fence.wide.fn 60 := trivial
  clear hmax hbytes hsize
  refine callsIn_of_wp Try.func32 rfl trivial ?_ rfl
  simp only [Try.ntmps32, List.size_toArray, List.length_cons, List.length_nil, Nat.reduceAdd, Nat.reduceSub, Array.replicate_succ, Array.replicate_zero, List.push_toArray, List.append_toArray, List.nil_append, List.cons_append]
  gi_wp2_with (first
    | (gi_at_call 61; refine (cK _ _).mono ?_; rintro e w' ⟨rfl, rfl⟩)
    | (gi_at_call 60; refine cS.mono ?_; rintro e w' ⟨v, ss, rfl, hS, hrow, hnil, hb⟩))
  go_ret
  have hns : (ss.mergeSort fun x y => decide (x ≤ y)) = numbers d.files := mergeSort_of_perm_i (hS.trans hperm)
  have hln : ss.length = (numbers d.files).length := by rw [← hns, List.length_mergeSort]
  rw [hns, hln] at hrow
  obtain ⟨A, c, rfl, hc, hC, hA⟩ := C_of_own hrow
  exact ⟨A, c, rfl, hc, hC, fun a ha => by have := hA a ha; simp at this; omega, ((Fr.refl _ w).alloc _).trans (Fr.of_below hb)⟩
end Go.Proofs.Ytljfagagopaidaa
