/- The document's disk: rows that are appended to, files that are written. -/
import Derived.Test.YtljfagagopaidaaRf
import Derived.Maps.AppendAt
namespace Go.Proofs.Ytljfagagopaidaa
open Go.RowKit Go.Proofs.YtljfagagopaidaaW.PrintWords
set_option linter.unusedSimpArgs false
set_option linter.unusedVariables false
set_option maxRecDepth 100000

theorem info87 : (Try.prog.info? 87).map (fun i => (i.zero, i.size, i.bytes)) = some (some (.agg #[.int .i64 0, .string ⟨#[]⟩, .int .i64 0]), 3, 32) := by kernel_rfl

theorem flat3_append (a b : List Fl) : flat3 (a ++ b) = flat3 a ++ flat3 b := by unfold flat3; rw [List.flatMap_append]

def Reads (w : World) (A : Option Addr) (r : List Fl) : Prop := r = [] ∨ ∃ a, A = some a ∧ ∀ j u, (flat3 r)[j]? = some u → w.cell? (a.add j) = some u

theorem one_flat (l : List Fl) : ∀ u ∈ flat3 l, u.oneCell' = true := by
  intro u hu
  obtain ⟨x, _, hx⟩ := List.mem_flatMap.1 hu
  simp at hx
  rcases hx with rfl | rfl | rfl <;> rfl

theorem Fr.of_grown {w w' : World} {row : Option Nat} (h : w.grownBy w' row) : Fr (fun k => row = some k) w w' :=
  ⟨h.os, h.tape, h.output, h.size, fun k hk hn => h.block k hk (fun e => hn e.symm)⟩

theorem app_run {w : World} {base : Nat} {v : Value} {l : List Fl} (hown : w.ownsRow base 87 3 v l.length (flat3 l)) (hb : base ≤ w.heap.size) (A : Option Addr) (m c : Nat) (r : List Fl) (hr : Reads w A r) (hm : r.length = m) (hl : l.length ≤ 1000000) (hm2 : m ≤ 1000000) :
    ∃ v' w', (Builtin.append_ #[80, 80] 80 #[v, .slice A m c]).run Try.prog w = .ok v' w' ∧ w'.ownsRow base 87 3 v' (l ++ r).length (flat3 (l ++ r)) ∧ Fr (fun k => v.ownBlock = some k) w w' ∧ (v'.ownBlock = v.ownBlock ∨ v'.ownBlock = some w.heap.size) := by
  obtain ⟨i0, hi, hz, hsz, hby⟩ := info_parts info87
  subst hm
  rcases hr with rfl | ⟨a, rfl, ha⟩
  · cases A with
    | none =>
      refine ⟨v, w, ?_, by rw [List.append_nil]; exact hown, Fr.refl _ _, .inl rfl⟩
      rcases hown.2 with ⟨rfl, hn⟩ | ⟨g, cap, cur, rfl, _, _, hnc, _⟩
      · simp [Builtin.append_, run_underlying Try.underlying80, sizeOf, typeInfo, hi, Builtin.lenOf, Builtin.firstCells]
      · simp [Builtin.append_, run_underlying Try.underlying80, sizeOf, typeInfo, hi, Builtin.lenOf, Builtin.firstCells, hnc, storeCells]
    | some a =>
      obtain ⟨v', w', h1, h2, h3, _, h4⟩ := run_append_own_at (P := Try.prog) w base 80 80 87 i0 _ 3 32 Try.underlying80 hi hz hsz hby rfl (by decide) v l.length (flat3 l) hown a 0 c [] rfl (by simp) (by simp) (by simp only [maxLen]; omega) (by omega) hb
      exact ⟨v', w', h1, by simpa using h2, Fr.of_grown h3, h4⟩
  · obtain ⟨v', w', h1, h2, h3, _, h4⟩ := run_append_own_at (P := Try.prog) w base 80 80 87 i0 _ 3 32 Try.underlying80 hi hz hsz hby rfl (by decide) v l.length (flat3 l) hown a r.length c (flat3 r) (flat3_length r) ha (one_flat r) (by simp only [maxLen]; omega) (by omega) hb
    exact ⟨v', w', h1, by rw [List.length_append, flat3_append]; exact h2, Fr.of_grown h3, h4⟩

theorem wp_app {P : Program} {ops : Array Oper} {rest : List Oper} {o : Oper} {a : Act} {Q : Exit → Act → World → Prop} {W w1 : World} {t : TypeId} (hgd : o.guard = none) (s x : Operand) (ho : o.op = .call { callee := .builtin .append, args := #[s, x], argTypes := #[t, t] })
    (hty : o.type = t) {v y v1 : Value} (hs : a.eval s = v) (hx : a.eval x = y) (hr : (Builtin.append_ #[t, t] t #[v, y]).run P W = .ok v1 w1) (h : wpList P ops Q rest (a.put o.dst v1) w1) : wpList P ops Q (o :: rest) a W := by
  refine wpList_plain hgd fun K hK => ?_
  unfold Oper.wp execOp
  simp only [ho, resolve, invoke, builtin, Sem.run_bind, Sem.run_pure, Result.andThen_ok, List.map_toArray, List.map_cons, List.map_nil, hs, hx, hty, hr]
  exact hK _ _ h

theorem flat3_set : ∀ (l : List Fl) (i : Nat) (x y : Fl) (j : Nat) (u : Value), l[i]? = some x → j < 3 → ([Value.int .i64 x.k, .string x.s, .int .i64 x.n].set j u = [.int .i64 y.k, .string y.s, .int .i64 y.n]) → (flat3 l).set (i * 3 + j) u = flat3 (l.set i y)
  | [], i, x, y, j, u, h, _, _ => by simp at h
  | z :: zs, 0, x, y, j, u, h, hj, e => by
    simp at h
    subst h
    show ([Value.int .i64 z.k, .string z.s, .int .i64 z.n] ++ flat3 zs).set (0 * 3 + j) u = [Value.int .i64 y.k, .string y.s, .int .i64 y.n] ++ flat3 zs
    rw [List.set_append_left _ _ (by simp; omega), ← e]
    simp
  | z :: zs, i + 1, x, y, j, u, h, hj, e => by
    show ([Value.int .i64 z.k, .string z.s, .int .i64 z.n] ++ flat3 zs).set ((i + 1) * 3 + j) u = [Value.int .i64 z.k, .string z.s, .int .i64 z.n] ++ flat3 (zs.set i y)
    rw [List.set_append_right _ _ (by simp; omega)]
    congr 1
    rw [← flat3_set zs i x y j u (by simpa using h) hj e]
    congr 1
    simp
    omega

/-- A field of a file is written. -/
theorem RefAt.put {w : World} {base g : Nat} {ad : Addr} {n c : Nat} {d : Dk} (h : RefAt w base g (.slice (some ad) n c) d) {i : Nat} {x : Fl} (hx : d.files[i]? = some x) (y : Fl) (hk : y.k = x.k) (j : Nat) (hj : j < 3) (u : Value) (e : [Value.int .i64 x.k, .string x.s, .int .i64 x.n].set j u = [.int .i64 y.k, .string y.s, .int .i64 y.n]) :
    RefAt (w.setCell ⟨(ad.add (i * 3)).block, (ad.add (i * 3)).off + j, none⟩ u) base g (.slice (some ad) n c) { d with files := d.files.set i y } ∧ RefS w base (ad.add (i * 3)).block := by
  have hi : i < d.files.length := (List.getElem?_eq_some_iff.1 hx).1
  rcases h.row.2 with ⟨_, h0⟩ | ⟨b, cap, cur, e2, hb, hh, hn, hm, hs, ht⟩
  · omega
  injection e2 with e3 e4 e5
  injection e3 with e3
  subst e3
  have hadd : (⟨b, 0, none⟩ : Addr).add (i * 3) = ⟨b, i * 3, none⟩ := by
    unfold Addr.add
    split
    · next h => rw [h]
    · simp
  rw [hadd]
  have hbg : b ≠ g := by
    rintro rfl
    have := h.blk
    rw [hh] at this
    injection this with this
    injection this with _ h2
    cases h2
  refine ⟨⟨set_other h.blk (Ne.symm hbg) _, ⟨?_, ?_⟩, h.ge, ?_, ?_⟩, hb, cur, 87, (0, 0), hh, .inr rfl⟩
  · simp only [List.length_set]
    rw [flat3_length, List.length_set]
  · right
    refine ⟨b, cap, cur.setIfInBounds (i * 3 + j) u, by simp [← e4, ← e5], hb, set_blk hh _ _, by simpa using hn, hm, by simpa using hs, ?_⟩
    simp only [List.length_set]
    rw [Array.toList_setIfInBounds, List.take_set, ht, flat3_set _ _ _ _ _ _ hx hj e]
  · show (d.files.set i y).Pairwise _
    have hsrt := h.srt
    rw [List.pairwise_iff_getElem] at hsrt ⊢
    have hxi : d.files[i] = x := (List.getElem?_eq_some_iff.1 hx).2
    have key : ∀ p (hp : p < (d.files.set i y).length), ((d.files.set i y)[p]).k = (d.files[p]'(by simpa using hp)).k := by
      intro p hp
      rw [List.getElem_set]
      split
      · next hip => subst hip; rw [hxi, hk]
      · rfl
    intro p q hp hq hpq
    rw [key, key]
    exact hsrt p q _ _ hpq
  · intro z hz
    rcases List.mem_or_eq_of_mem_set hz with hz | rfl
    · exact h.keys z hz
    · rw [hk]; exact h.keys x (List.mem_of_getElem? hx)

/-- Alike but for the order of the files. -/
structure Alike (d r : Dk) : Prop where
  files : r.files.Perm d.files
  limit : r.limit = d.limit
  armed : r.armed = d.armed
  dead : r.dead = d.dead
  steps : r.steps = d.steps

theorem Alike.refl (d : Dk) : Alike d d := ⟨List.Perm.refl _, rfl, rfl, rfl, rfl⟩
theorem Alike.trans {a b c : Dk} (h : Alike a b) (k : Alike b c) : Alike a c := ⟨k.files.trans h.files, k.limit.trans h.limit, k.armed.trans h.armed, k.dead.trans h.dead, k.steps.trans h.steps⟩
theorem Alike.wrong {d r : Dk} (h : Alike d r) (f : Int) : r.wrong f = d.wrong f := by unfold Dk.wrong; rw [h.dead]
theorem Alike.step {d r : Dk} (h : Alike d r) : Alike d.step r.step := by
  refine ⟨h.files, h.limit, ?_, ?_, ?_⟩
  · show (if 0 < r.armed then _ else _) = _; rw [h.armed]; rfl
  · show (if 0 < r.armed then _ else _) = _; rw [h.armed, h.dead]; rfl
  · show wrap64 _ = _; rw [h.steps]; rfl

theorem srt_nodup {l : List Fl} (h : l.Pairwise (fun a b => a.k < b.k)) : l.Pairwise (fun a b => a.k ≠ b.k) := h.imp (fun h => by omega)

theorem look_perm {l l' : List Fl} (h : l.Perm l') (hn : l.Pairwise (fun a b => a.k ≠ b.k)) (f : Int) : look l f = look l' f := by
  induction h with
  | nil => rfl
  | cons x _ ih =>
    rw [List.pairwise_cons] at hn
    unfold look at ih ⊢
    rw [List.find?_cons, List.find?_cons, ih hn.2]
  | swap x y l =>
    rw [List.pairwise_cons] at hn
    have hne := hn.1 x (by simp)
    unfold look
    simp only [List.find?_cons]
    by_cases h1 : (y.k == f) = true
    · by_cases h2 : (x.k == f) = true
      · simp at h1 h2; omega
      · simp [h1, h2]
    · simp [h1]
  | trans p q ih1 ih2 => exact (ih1 hn).trans (ih2 ((p.pairwise_iff (fun h => h.symm)).1 hn))

theorem lay_perm {l l' : List Fl} (h : l.Perm l') (x : Fl) : (lay l x).Perm (lay l' x) := by
  have ha : l.any (fun y => y.k == x.k) = l'.any (fun y => y.k == x.k) := by
    rw [Bool.eq_iff_iff, List.any_eq_true, List.any_eq_true]
    exact ⟨fun ⟨y, hy, e⟩ => ⟨y, h.mem_iff.1 hy, e⟩, fun ⟨y, hy, e⟩ => ⟨y, h.mem_iff.2 hy, e⟩⟩
  unfold lay
  rw [ha]
  split
  · exact h.map _
  · exact h.append_right _

theorem any_iff {l : List Fl} {f : Int} : l.any (fun y => y.k == f) = (look l f).isSome := by
  unfold look
  rw [Bool.eq_iff_iff, List.any_eq_true, List.find?_isSome]

theorem isAt_iff {l : List Fl} {f : Int} (hs : l.Pairwise (fun a b => a.k < b.k)) : isAt l f = (look l f).isSome := by
  cases h : isAt l f with
  | false => rw [isAt_none hs h]; rfl
  | true =>
    obtain ⟨x, _, _, h3⟩ := isAt_some h
    rw [h3]; rfl

/-- A file that is there is written over. -/
theorem lay_set {l : List Fl} {f : Int} {y : Fl} (hs : l.Pairwise (fun a b => a.k < b.k)) (h : isAt l f = true) (hy : y.k = f) : lay l y = l.set (plc l f) y := by
  obtain ⟨x, h1, h2, h3⟩ := isAt_some h
  have ha : l.any (fun z => z.k == y.k) = true := by rw [hy, any_iff, h3]; rfl
  unfold lay
  rw [if_pos ha]
  have hi := (List.getElem?_eq_some_iff.1 h1).1
  have hx := (List.getElem?_eq_some_iff.1 h1).2
  apply List.ext_getElem
  · simp
  · intro p hp hq
    rw [List.getElem_map, List.getElem_set]
    have hp' : p < l.length := by simpa using hp
    rw [List.pairwise_iff_getElem] at hs
    by_cases hpi : plc l f = p
    · subst hpi
      rw [if_pos (by rw [hx]; simp [h2, hy]), if_pos rfl]
    · rw [if_neg hpi]
      have hne : l[p].k ≠ f := by
        rw [← h2, ← hx]
        rcases Nat.lt_or_ge p (plc l f) with hlt | hge
        · have := hs p (plc l f) hp' hi hlt; omega
        · have := hs (plc l f) p hi hp' (by omega); omega
      rw [if_neg (by simp [hy, hne])]

theorem rlay_new {l : List Fl} {f : Int} {y : Fl} (hs : l.Pairwise (fun a b => a.k < b.k)) (h : isAt l f = false) (hy : y.k = f) : (l.take (plc l f) ++ [y] ++ l.drop (plc l f)).Perm (lay l y) := by
  have ha : l.any (fun z => z.k == y.k) = false := by rw [hy, any_iff, isAt_none hs h]; rfl
  unfold lay
  rw [ha, if_neg (by simp)]
  have : (l.take (plc l f) ++ [y] ++ l.drop (plc l f)).Perm (l.take (plc l f) ++ (l.drop (plc l f) ++ [y])) := by
    rw [List.append_assoc]
    exact List.Perm.append_left _ List.perm_append_comm
  refine this.trans ?_
  rw [← List.append_assoc, List.take_append_drop]

theorem plc_lt {l : List Fl} {f : Int} : ∀ x ∈ l.take (plc l f), x.k < f := by
  induction l with
  | nil => simp
  | cons y ys ih =>
    intro x hx
    unfold plc at hx
    split at hx
    · simp at hx
    · simp at hx
      rcases hx with rfl | hx
      · omega
      · exact ih x hx
theorem plc_gt {l : List Fl} {f : Int} (hs : l.Pairwise (fun a b => a.k < b.k)) (h : isAt l f = false) : ∀ x ∈ l.drop (plc l f), f < x.k := by
  intro x hx
  have hn := isAt_none hs h
  unfold look at hn
  rw [List.find?_eq_none] at hn
  have h1 := hn x (List.mem_of_mem_drop hx)
  simp at h1
  have : f ≤ x.k := by
    clear hn h h1
    induction l with
    | nil => simp at hx
    | cons y ys ih =>
      rw [List.pairwise_cons] at hs
      unfold plc at hx
      split at hx
      · next hfy =>
        simp at hx
        rcases hx with rfl | hx
        · exact hfy
        · have := hs.1 x hx; omega
      · exact ih hs.2 (by simpa using hx)
  omega

theorem srt_new {l : List Fl} {f : Int} {y : Fl} (hs : l.Pairwise (fun a b => a.k < b.k)) (h : isAt l f = false) (hy : y.k = f) : (l.take (plc l f) ++ [y] ++ l.drop (plc l f)).Pairwise (fun a b => a.k < b.k) := by
  rw [List.append_assoc, List.pairwise_append]
  refine ⟨hs.sublist (List.take_sublist _ _), ?_, ?_⟩
  · rw [List.pairwise_append]
    refine ⟨by simp, hs.sublist (List.drop_sublist _ _), ?_⟩
    intro a ha b hb
    simp at ha
    subst ha
    rw [hy]
    exact plc_gt hs h b hb
  · intro a ha b hb
    have h1 := plc_lt a ha
    rcases List.mem_append.1 hb with hb | hb
    · simp at hb; subst hb; omega
    · have := plc_gt hs h b hb; omega

theorem RefAt.rd {w : World} {base g : Nat} {A : Option Addr} {n c : Nat} {d : Dk} (h : RefAt w base g (.slice A n c) d) {j : Nat} {u : Value} (hu : (flat3 d.files)[j]? = some u) : ∃ a, A = some a ∧ w.cell? (a.add j) = some u := by
  have hj : j < d.files.length * 3 := by rw [← flat3_length]; exact (List.getElem?_eq_some_iff.1 hu).1
  rcases h.row.2 with ⟨_, h0⟩ | ⟨b, cap, cur, e, hb, hh, hn, hm, hs, ht⟩
  · omega
  injection e with e1 e2 e3
  subst e1
  refine ⟨_, rfl, ?_⟩
  have hadd : (⟨b, 0, none⟩ : Addr).add j = ⟨b, j, none⟩ := by
    unfold Addr.add
    split
    · next h => rw [h]
    · simp
  rw [hadd, cell_blk hh]
  rw [← ht, List.getElem?_take, if_pos hj] at hu
  rw [← hu]
  exact Array.getElem?_toList.symm

theorem RefAt.cap {w : World} {base g : Nat} {A : Option Addr} {n c : Nat} {d : Dk} (h : RefAt w base g (.slice A n c) d) : n = d.files.length ∧ n ≤ c := by
  rcases h.row.2 with ⟨e, h0⟩ | ⟨b, cap, cur, e, hb, hh, hn, hm, hs, ht⟩
  · injection e with e1 e2 e3; omega
  · injection e with e1 e2 e3; omega

theorem RefAt.front {w : World} {base g : Nat} {A : Option Addr} {n c : Nat} {d : Dk} (h : RefAt w base g (.slice A n c) d) (i : Nat) : Reads w A (d.files.take i) := by
  cases hA : A with
  | none =>
    left
    cases hl : d.files.take i with
    | nil => rfl
    | cons x xs =>
      have : d.files[0]? = some x := by
        have : (d.files.take i)[0]? = some x := by rw [hl]; rfl
        rw [List.getElem?_take] at this
        split at this
        · exact this
        · cases this
      obtain ⟨a, ha, _⟩ := h.rd (flat3_get _ _ _ this).1
      rw [hA] at ha
      cases ha
  | some a =>
    right
    refine ⟨a, rfl, fun j u hu => ?_⟩
    have : (flat3 d.files)[j]? = some u := by
      rw [← List.take_append_drop i d.files, flat3_append, List.getElem?_append_left (List.getElem?_eq_some_iff.1 hu).1]
      exact hu
    obtain ⟨a', ha, hc⟩ := h.rd this
    rw [hA] at ha
    injection ha with ha
    rw [ha]
    exact hc

theorem RefAt.back {w : World} {base g : Nat} {A : Option Addr} {n c : Nat} {d : Dk} (h : RefAt w base g (.slice A n c) d) (i : Nat) (hi : i ≤ d.files.length) : Reads w (if c = i then A else A.map (·.add (i * 3))) (d.files.drop i) := by
  cases hl : d.files.drop i with
  | nil => exact .inl rfl
  | cons x xs =>
    right
    have hlt : i < d.files.length := by
      rcases Nat.lt_or_ge i d.files.length with h | h
      · exact h
      · rw [List.drop_eq_nil_of_le h] at hl; cases hl
    have hc := h.cap
    rw [if_neg (by omega), ← hl]
    have key : ∀ j u, (flat3 (d.files.drop i))[j]? = some u → ∃ a, A = some a ∧ w.cell? (a.add (i * 3 + j)) = some u := by
      intro j u hu
      apply h.rd
      rw [← List.take_append_drop i d.files, flat3_append, List.getElem?_append_right (by rw [flat3_length, List.length_take]; omega)]
      rw [flat3_length, List.length_take, Nat.min_eq_left hi, Nat.add_sub_cancel_left]
      exact hu
    obtain ⟨a, ha, _⟩ := key 0 (.int .i64 x.k) (by rw [hl]; rfl)
    refine ⟨a.add (i * 3), by rw [ha]; rfl, fun j u hu => ?_⟩
    obtain ⟨a', ha', hc'⟩ := key j u hu
    rw [ha] at ha'
    injection ha' with ha'
    rw [Addr.add_add, ha']
    exact hc'

theorem Reads.fr {w w' : World} {A : Option Addr} {r : List Fl} {S : Nat → Prop} (h : Reads w A r) (k : Fr S w w') (hA : ∀ a, A = some a → ¬ S a.block) : Reads w' A r := by
  rcases h with h | ⟨a, rfl, h⟩
  · exact .inl h
  · exact .inr ⟨a, rfl, fun j u hu => k.cell (h j u hu) (by rw [block_add]; exact hA a rfl)⟩

theorem Reads.box (w : World) (x : Fl) : Reads (w.alloc (.cells #[.int .i64 x.k, .string x.s, .int .i64 x.n] 87)) (some ⟨w.heap.size, 0, none⟩) [x] := by
  refine .inr ⟨_, rfl, fun j u hu => ?_⟩
  have hadd : (⟨w.heap.size, 0, none⟩ : Addr).add j = ⟨w.heap.size, j, none⟩ := by
    unfold Addr.add
    split
    · next h => rw [h]
    · simp
  rw [hadd, cell_blk (heap_alloc_new _ _)]
  rw [← hu]
  exact (Array.getElem?_toList (xs := #[Value.int .i64 x.k, .string x.s, .int .i64 x.n])).symm

theorem own_fr {w w' : World} {base : Nat} {e : TypeId} {size n : Nat} {v : Value} {xs : List Value} {S : Nat → Prop} (h : w.ownsRow base e size v n xs) (k : Fr S w w') (hv : ∀ b, v.ownBlock = some b → ¬ S b) : w'.ownsRow base e size v n xs :=
  own_move h fun b hb => by
    obtain ⟨_, cs, hb2⟩ := own_block h b hb
    exact k.block b (lt_blk hb2) (hv b hb)

theorem RefAt.fr2 {w w' : World} {base g : Nat} {v : Value} {d : Dk} {S : Nat → Prop} (h : RefAt w base g v d) (k : Fr S w w') (hg : ¬ S g) (hv : ∀ b, v.ownBlock = some b → ¬ S b) : RefAt w' base g v d :=
  ⟨k.keep h.blk hg, own_fr h.row k hv, h.ge, h.srt, h.keys⟩

theorem RefAt.lt {w : World} {base g : Nat} {v : Value} {d : Dk} (h : RefAt w base g v d) : g < w.heap.size ∧ ∀ b, v.ownBlock = some b → b < w.heap.size := by
  refine ⟨lt_blk h.blk, fun b hb => ?_⟩
  obtain ⟨_, cs, hb2⟩ := own_block h.row b hb
  exact lt_blk hb2

/-- The row is put into the disk. -/
theorem RefAt.row_set {w : World} {base g : Nat} {v v' : Value} {d : Dk} (h : RefAt w base g v d) (l : List Fl) (hrow : w.ownsRow base 87 3 v' l.length (flat3 l)) (hs : l.Pairwise (fun a b => a.k < b.k)) (hk : ∀ x ∈ l, 0 ≤ x.k ∧ x.k < 65536) :
    RefAt (w.setCell ⟨g, 0, none⟩ v') base g v' { d with files := l } :=
  ⟨by simpa using set_blk h.blk 0 v', own_set hrow h.blk (by decide) _, h.ge, hs, hk⟩

theorem set_mid (a b : List Fl) (x y : Fl) (i : Nat) (hi : a.length = i) : (a ++ [x] ++ b).set i y = a ++ [y] ++ b ∧ (a ++ [x] ++ b)[i]? = some x := by
  subst hi
  constructor
  · rw [List.append_assoc, List.set_append_right _ _ (Nat.le_refl _), Nat.sub_self, List.append_assoc]
    rfl
  · rw [List.append_assoc, List.getElem?_append_right (Nat.le_refl _), Nat.sub_self]
    rfl

end Go.Proofs.Ytljfagagopaidaa
