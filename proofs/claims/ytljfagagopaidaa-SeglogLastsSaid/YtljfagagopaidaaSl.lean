/- SeglogLasts: for any records, any steps, any keeps the law's function returns true. -/
import Derived.Test.YtljfagagopaidaaSc
import Derived.Test.YtljfagagopaidaaOpw
import Derived.Deep.DeepCutAuto
namespace Go.Proofs.Ytljfagagopaidaa
open Go.RowKit Go.Proofs.YtljfagagopaidaaW.PrintWords
set_option linter.unusedSimpArgs false
set_option linter.unusedVariables false
set_option maxRecDepth 100000

abbrev PutT := List ByteArray × Bool × Bool
def kPut : Kd PutT := Kd.pair (Kd.slice 9 Kd.string) (Kd.pair Kd.bool Kd.bool)
theorem at_put {w : World} {A : Option Addr} {n : Nat} {xs : List PutT} (h : Kd.C kPut w A n xs) (i : Nat) (hi : i < n) :
    ∃ ad x K c, A = some ad ∧ xs[i]? = some x ∧ x.1.length ≤ c ∧ Kd.string.C w K x.1.length x.1 ∧ w.cell? (ad.add (i * 3)) = some (.slice K x.1.length c) ∧ w.cell? ⟨(ad.add (i * 3)).block, (ad.add (i * 3)).off + 1, none⟩ = some (.bool x.2.1) ∧ w.cell? ⟨(ad.add (i * 3)).block, (ad.add (i * 3)).off + 2, none⟩ = some (.bool x.2.2) := by
  obtain ⟨ad, rfl, hc⟩ := h.2.2 (by omega)
  have hl : i < xs.length := by have := h.1; omega
  obtain ⟨c, hs, hK, hcell⟩ := hc i _ (List.getElem?_eq_getElem hl)
  obtain ⟨c0, r0, rfl, h0, c1, c2, rfl, h1, h2⟩ := hK
  obtain ⟨K, c', rfl, hlc, hC⟩ := h0
  cases h1; cases h2
  refine ⟨ad, _, K, c', rfl, List.getElem?_eq_getElem hl, hlc, hC, hcell 0 _ rfl, ?_, ?_⟩
  · have := hcell 1 _ rfl
    rw [← add_field ad (i * 3) 1 (by decide)]
    exact this
  · have := hcell 2 _ rfl
    rw [← add_field ad (i * 3) 2 (by decide)]
    exact this

/-- A list of texts in memory that the log's calls leave as it is. -/
structure Txt (w : World) (g m b : Nat) (A : Option Addr) (c : Nat) (l : List ByteArray) : Prop where
  C : Kd.string.C w A l.length l
  cap : l.length ≤ c
  far : l ≠ [] → ∀ a, A = some a → ¬ Three g m b a.block
theorem Txt.fr {w w' : World} {g m b : Nat} {A : Option Addr} {c : Nat} {l : List ByteArray} (h : Txt w g m b A c l) (k : Fr (Three g m b) w w') : Txt w' g m b A c l :=
  ⟨C_fr0 flat_string h.C k h.far, h.cap, h.far⟩
theorem Txt.keep {w w' : World} {g m b : Nat} {A : Option Addr} {c : Nat} {l : List ByteArray} (h : Txt w g m b A c l) (k : Fr (fun _ => False) w w') : Txt w' g m b A c l := h.fr k.none_
theorem C_lt {w : World} {A : Option Addr} {l : List ByteArray} (h : Kd.string.C w A l.length l) (hne : l ≠ []) : ∀ a, A = some a → a.block < w.heap.size := by
  intro a ha
  obtain ⟨ad, e, hc⟩ := h.2.2 (List.length_pos_iff.2 hne)
  rw [ha] at e
  injection e with e
  subst e
  obtain ⟨cs, hl, hK, hcell⟩ := hc 0 _ (List.getElem?_eq_getElem (List.length_pos_iff.2 hne))
  cases hK
  have := World.block_lt_of_cell? _ _ (hcell 0 _ rfl)
  rwa [block_add] at this
/-- Another log is opened. -/
theorem Txt.again {w w' : World} {g m b b' : Nat} {A : Option Addr} {c : Nat} {l : List ByteArray} (h : Txt w g m b A c l) (k : Fr (Two g m) w w') (hb : w.heap.size ≤ b') : Txt w' g m b' A c l := by
  refine ⟨C_fr0 flat_string h.C k (fun hne a ha e => h.far hne a ha (by rcases e with e | e; exact .inl e; exact .inr (.inl e))), h.cap, fun hne a ha e => ?_⟩
  have h1 := C_lt h.C hne a ha
  rcases e with e | e | e
  · exact h.far hne a ha (.inl e)
  · exact h.far hne a ha (.inr (.inl e))
  · omega
theorem Txt.nil (w : World) (g m b : Nat) : Txt w g m b none 0 [] := ⟨C_nil w, Nat.le_refl _, fun h => absurd rfl h⟩

/-- Texts appended to a row of the call's own. -/
theorem info9 : (Try.prog.info? 9).map (fun i => (i.zero, i.size, i.bytes)) = some (some (.string ⟨#[]⟩), 1, 16) := by kernel_rfl
theorem txt_run {w : World} {base : Nat} {v : Value} {l : List ByteArray} (hown : w.ownsRow base 9 1 v l.length (l.map Value.string)) (hb : base ≤ w.heap.size) (A : Option Addr) (c : Nat) (r : List ByteArray) (hr : Kd.string.C w A r.length r) (hl : l.length ≤ 1000000) (hm2 : r.length ≤ 1000000) :
    ∃ v' w', (Builtin.append_ #[22, 22] 22 #[v, .slice A r.length c]).run Try.prog w = .ok v' w' ∧ w'.ownsRow base 9 1 v' (l ++ r).length ((l ++ r).map Value.string) ∧ Fr (fun k => v.ownBlock = some k) w w' ∧ (v'.ownBlock = v.ownBlock ∨ v'.ownBlock = some w.heap.size) := by
  obtain ⟨i0, hi, hz, hsz, hby⟩ := info_parts info9
  cases A with
  | none =>
    have h0 : r.length = 0 := by
      rcases Nat.eq_zero_or_pos r.length with h0 | h0
      · exact h0
      · obtain ⟨a, ha, _⟩ := hr.2.2 h0
        cases ha
    obtain rfl : r = [] := List.eq_nil_of_length_eq_zero h0
    refine ⟨v, w, ?_, by rw [List.append_nil]; exact hown, Fr.refl _ _, .inl rfl⟩
    rcases hown.2 with ⟨rfl, hn⟩ | ⟨g, cap, cur, rfl, _, _, hnc, _⟩
    · simp [Builtin.append_, run_underlying Try.underlying22, sizeOf, typeInfo, hi, Builtin.lenOf, Builtin.firstCells]
    · simp [Builtin.append_, run_underlying Try.underlying22, sizeOf, typeInfo, hi, Builtin.lenOf, Builtin.firstCells, hnc, storeCells]
  | some a =>
    have hcells : ∀ j u, (r.map Value.string)[j]? = some u → w.cell? (a.add j) = some u := by
      intro j u hj
      rw [List.getElem?_map, Option.map_eq_some_iff] at hj
      obtain ⟨p, hp, rfl⟩ := hj
      obtain ⟨ad, e, hc⟩ := hr.2.2 (by have := (List.getElem?_eq_some_iff.1 hp).1; omega)
      injection e with e
      subst e
      obtain ⟨cs, _, hK, hcell⟩ := hc j p hp
      cases hK
      have := hcell 0 _ rfl
      rw [show j * Kd.string.sz + 0 = j from Nat.mul_one j] at this
      exact this
    obtain ⟨v', w', h1, h2, h3, _, h4⟩ := run_append_own_at (P := Try.prog) w base 22 22 9 i0 _ 1 16 Try.underlying22 hi hz hsz hby rfl (by decide) v l.length (l.map Value.string) hown a r.length c (r.map Value.string) (by simp) hcells (by intro u hu; obtain ⟨x, _, rfl⟩ := List.mem_map.1 hu; rfl) (by simp only [maxLen]; omega) (by omega) hb
    exact ⟨v', w', h1, by rw [List.length_append, List.map_append]; exact h2, Fr.of_grown h3, h4⟩

/-- A step of a region whose order is open, at append. -/
theorem step_app {P : Program} {ops : Array Oper} {o : Oper} {a : Act} {Q : Exit → Act → World → Prop} {K : Act → World → Prop} {W w1 : World} {t : TypeId} (hw : Region.wanted o (yielded ops a.tmps) = true) (s x : Operand) (ho : o.op = .call { callee := .builtin .append, args := #[s, x], argTypes := #[t, t] })
    (hty : o.type = t) {v y v1 : Value} (hs : a.eval s = v) (hx : a.eval x = y) (hr : (Builtin.append_ #[t, t] t #[v, y]).run P W = .ok v1 w1) (h : K (a.put o.dst v1) w1) :
    if Region.wanted o (yielded ops a.tmps) = true then Oper.wp P o a W K Q else K (a.put o.dst undef) W := by
  rw [if_pos hw]
  unfold Oper.wp execOp
  simp only [ho, resolve, invoke, builtin, Sem.run_bind, Sem.run_pure, Result.andThen_ok, List.map_toArray, List.map_cons, List.map_nil, hs, hx, hty, hr]
  exact h

theorem begins_calls (A0 : Option Addr) (c0 : Nat) (l0 : List ByteArray) (A1 : Option Addr) (c1 : Nat) (l1 : List ByteArray) (w : World) (hr0 : Kd.string.C w A0 l0.length l0) (hc0 : l0.length ≤ c0) (hr1 : Kd.string.C w A1 l1.length l1) (hc1 : l1.length ≤ c1) (hle : l0.length ≤ l1.length) (htk : l0 = l1.take l0.length) :
    Calls Try.prog 46 #[.slice A0 l0.length c0, .slice A1 l1.length c1] w fun e w' => e = .returned (.bool true) ∧ Fr (fun _ => False) w w' := by
  have hs : ∀ W : World, (Instr.slice 22 (.slice A1 l1.length c1) none (some (.int .i64 (l0.length : Int))) none).run Try.prog W = .ok (.slice A1 l0.length c1) W := by
    obtain ⟨i0, hi0, _, hsz, _⟩ := info_parts info9
    intro W
    exact cut_to (P := Try.prog) 22 9 .i64 Try.underlying22 hi0 A1 l1.length c1 (l0.length : Int) (by omega) (by omega) hc1 W
  have hr1' : Kd.string.C w A1 (l1.take l0.length).length (l1.take l0.length) := by
    refine ⟨rfl, by have := hr1.2.1; rw [List.length_take]; omega, fun hn => ?_⟩
    obtain ⟨ad, ha, hc⟩ := hr1.2.2 (by rw [List.length_take] at hn; omega)
    refine ⟨ad, ha, fun j p hj => hc j p ?_⟩
    rw [List.getElem?_take] at hj
    split at hj
    · exact hj
    · cases hj
  rw [← htk] at hr1'
  have htx := texts_calls A0 c0 l0 A1 c1 l0 w hr0 hc0 hr1' (by omega)
  rw [decide_eq_true (rfl : l0 = l0)] at htx
  have hleI : (l0.length : Int) ≤ (l1.length : Int) := by omega
  have hm0 := hr0.2.1
  clear htk hr1 hr1'
  go_enter Try.func46, Try.ntmps46
  go_wp2_with fail
  refine htx.mono ?_
  rintro e w1 ⟨rfl, k1⟩
  go_wp2
  go_ret
  exact ⟨rfl, k1⟩

theorem C_of_ownS {w : World} {base : Nat} {v : Value} {xs : List ByteArray} (h : w.ownsRow base 9 1 v xs.length (xs.map Value.string)) :
    ∃ A c, v = .slice A xs.length c ∧ xs.length ≤ c ∧ Kd.string.C w A xs.length xs ∧ ∀ a, A = some a → base ≤ a.block := by
  rcases h.2 with ⟨rfl, h0⟩ | ⟨g, cap, cur, rfl, hb, hh, hc, hm, _⟩
  · refine ⟨none, 0, by rw [h0], by omega, ⟨rfl, by omega, fun hn => by omega⟩, fun a ha => by cases ha⟩
  · refine ⟨_, cap, rfl, hc, ⟨rfl, by simp only [maxLen] at hm; omega, fun hn => ⟨_, rfl, fun j p hj => ⟨[.string p], rfl, rfl, fun i u hu => ?_⟩⟩⟩, fun a ha => by injection ha with ha; rw [← ha]; exact hb⟩
    match i, hu with
    | 0, hu =>
      have hu' : Value.string p = u := by simpa using hu
      subst hu'
      show w.cell? ((⟨g, 0, none⟩ : Addr).add (j * 1 + 0)) = _
      rw [Nat.mul_one, Nat.add_zero]
      exact h.cells (g := g) rfl j _ (by simp [hj])
    | i + 1, hu => simp at hu

/-- append(append([]string{}, all...), rs...). -/
theorem all_run {wc : World} {g m b : Nat} {d : Dk} {l : Lg} (on : On wc g m b d l) {Aa K : Option Addr} {ca c : Nat} {all rs : List ByteArray} (ta : Txt wc g m b Aa ca all) (hCr : Kd.string.C wc K rs.length rs) (hl : all.length ≤ 900000) (hr : rs.length ≤ 2000) :
    ∃ v1 w1 A2 c2 w2, (Builtin.append_ #[22, 22] 22 #[.slice (some ⟨wc.heap.size, 0, none⟩) 0 0, .slice Aa all.length ca]).run Try.prog ((wc.alloc (.cells #[] 9)).drew) = .ok v1 w1 ∧
      (Builtin.append_ #[22, 22] 22 #[v1, .slice K rs.length c]).run Try.prog w1 = .ok (.slice A2 (all ++ rs).length c2) w2 ∧ Fr (fun _ => False) wc w1 ∧ Fr (fun _ => False) wc w2 ∧ Txt w2 g m b A2 c2 (all ++ rs) := by
  obtain ⟨W, hW⟩ : ∃ W, W = (wc.alloc (.cells #[] 9)).drew := ⟨_, rfl⟩
  have kW : Fr (fun _ => False) wc W := by rw [hW]; exact ((Fr.refl _ wc).alloc _).drew
  have hsW : W.heap.size = wc.heap.size + 1 := by rw [hW]; show (wc.alloc _).heap.size = _; simp
  have own0 : W.ownsRow wc.heap.size 9 1 (.slice (some ⟨wc.heap.size, 0, none⟩) 0 0) ([] : List ByteArray).length (([] : List ByteArray).map Value.string) := by
    have h := World.ownsRow_lit (base := wc.heap.size) (e := 9) (size := 1) wc #[] 0 (Nat.le_refl _) (by decide) rfl
    rw [hW]
    exact h
  rw [← hW]
  obtain ⟨v1, w1, r1, o1, k1, b1⟩ := txt_run own0 (by omega) Aa ca all (C_fr flat_string ta.C kW (fun _ _ => id)) (by simp) (by omega)
  have k1' : Fr (fun _ => False) wc w1 := kW.then_ k1 (fun i hi e => by simp [Value.ownBlock] at e; omega)
  have n1 : ∀ q, v1.ownBlock = some q → wc.heap.size ≤ q := by
    intro q hq
    rcases b1 with h | h
    · rw [h] at hq
      simp [Value.ownBlock] at hq
      omega
    · rw [h] at hq
      injection hq with hq
      omega
  rw [List.nil_append] at o1
  obtain ⟨v2, w2, r2, o2, k2, b2⟩ := txt_run o1 (Nat.le_trans (by omega) k1.size) K c rs (C_fr flat_string hCr k1' (fun _ _ => id)) (by omega) (by omega)
  have k2' : Fr (fun _ => False) wc w2 := k1'.then_ k2 (fun i hi e => by have := n1 i e; omega)
  obtain ⟨A2, c2, rfl, h1, h2, h3⟩ := C_of_ownS o2
  refine ⟨v1, w1, A2, c2, w2, r1, r2, k1', k2', h2, h1, fun _ a ha e => ?_⟩
  have := h3 a ha
  have hg := lt_blk on.disk.blk
  have hm := on.disk.map.lt
  have hb := lt_blk on.log
  rcases e with e | e | e <;> omega

/-- What a call has told, and what is left. -/
def Tri (a18 a0 : Int) (d : Dk) (l : Lg) (all : List ByteArray) (k i f : Nat) : Prop :=
  ((a18 = 0 ∨ a18 = 1) ∧ ∃ a', 0 ≤ a' ∧ (a0 = 0 → a' = 0) ∧ Inv d l a' all k i f) ∨ (a18 = 50 ∧ a0 ≠ 0 ∧ Pre d all k i f)
theorem Tri.pre {a18 a0 : Int} {d : Dk} {l : Lg} {all : List ByteArray} {k i f : Nat} (h : Tri a18 a0 d l all k i f) : Pre d all k i f := by
  rcases h with ⟨_, a', _, _, hi⟩ | ⟨_, _, hp⟩
  · exact hi.pre
  · exact hp
theorem Tri.up {a18 a0 : Int} {d : Dk} {l : Lg} {all : List ByteArray} {k i f g : Nat} (h : Tri a18 a0 d l all k i f) (hfg : f ≤ g) : Tri a18 a0 d l all k i g := by
  rcases h with ⟨h1, a', h2, h3, hi⟩ | ⟨h1, h2, hp⟩
  · exact .inl ⟨h1, a', h2, h3, hi.up (Nat.le_refl _) hfg⟩
  · exact .inr ⟨h1, h2, hp.up (Nat.le_refl _) hfg⟩
theorem Inv.arm {d : Dk} {l : Lg} {all : List ByteArray} {k i f : Nat} (h : Inv d l 0 all k i f) {n : Int} (h0 : 0 ≤ n) (h1 : n ≤ 9223372036854775807) : Inv (d.arm n) l n all k i f := by
  have hst : ∀ fs, St d fs lim20 0 false → St (d.arm n) fs lim20 n false := fun fs s => ⟨s.files, s.limit, by show (if 0 ≤ n then n else 0) = n; rw [if_pos h0], s.dead⟩
  refine ⟨h.gd.arm h1, h.good, h.kle, h.size, h.alive, h.file, ?_⟩
  rcases h.st with ⟨hb, hs, ha, hk⟩ | ⟨hb, x, hs, hx⟩
  · exact .inl ⟨hb, hst _ hs, ha, hk⟩
  · exact .inr ⟨hb, x, hst _ hs, hx⟩

theorem frames_few' (l : List ByteArray) : (framesOf l).size ≤ 8 * sumT l := by
  induction l with
  | nil => exact Nat.zero_le _
  | cons r l ih => rw [framesOf_cons, ByteArray.size_append, frame_size, sumT_cons]; omega
theorem sumT_mem' {l : List ByteArray} {r : ByteArray} (h : r ∈ l) : 1 + r.size ≤ sumT l := by
  induction l with
  | nil => cases h
  | cons x l ih =>
    rw [sumT_cons]
    rcases List.mem_cons.1 h with rfl | h
    · omega
    · have := ih h; omega
theorem few_goods' {l : List ByteArray} (hf : fewB l = true) (hn : ∀ r ∈ l, r.size ≠ 0) : goods l := by
  intro r hr
  have h1 := of_decide_eq_true hf
  have h2 := sumT_mem' hr
  have h3 := hn r hr
  exact ⟨by omega, by omega⟩
theorem few_len' {l : List ByteArray} (hf : fewB l = true) : (framesL l).length ≤ 16000 := by
  have h1 := of_decide_eq_true hf
  have h2 := frames_few' l
  rw [framesOf_size] at h2
  omega
theorem len_few {l : List ByteArray} (hf : fewB l = true) : l.length ≤ 2000 := by
  have h1 := of_decide_eq_true hf
  have : l.length ≤ sumT l := by
    clear h1 hf
    induction l with
    | nil => exact Nat.zero_le _
    | cons r l ih => rw [sumT_cons, List.length_cons]; omega
  omega

theorem Inv.down {d : Dk} {l : Lg} {a : Int} {all : List ByteArray} {k i f : Nat} (h : Inv d l a all k i f) : Inv d l a all k i f := h
theorem Inv.awake {d : Dk} {l : Lg} {a : Int} {all : List ByteArray} {k i f : Nat} (h : Inv d l a all k i f) : d.dead = false := by
  rcases h.st with ⟨_, hs, _, _⟩ | ⟨_, x, hs, _⟩
  · exact hs.dead
  · exact hs.dead
theorem keeps_far {w : World} {A : Option Addr} {keeps : List Int} (h : (Kd.int .i64).C w A keeps.length keeps) (hne : keeps ≠ []) : ∀ a, A = some a → a.block < w.heap.size := by
  intro a ha
  obtain ⟨ad, e, hc⟩ := h.2.2 (List.length_pos_iff.2 hne)
  rw [ha] at e
  injection e with e
  subst e
  obtain ⟨cs, hl, hK, hcell⟩ := hc 0 _ (List.getElem?_eq_getElem (List.length_pos_iff.2 hne))
  cases hK
  have := World.block_lt_of_cell? _ _ (hcell 0 _ rfl)
  rwa [block_add] at this

def emp (r : ByteArray) : Bool := decide (r.size = 0)
theorem any_take {l : List ByteArray} {j : Nat} (h : j < l.length) : (l.take (j + 1)).any emp = ((l.take j).any emp || emp l[j]) := by
  rw [List.take_succ_eq_append_getElem h, List.any_append]
  simp
theorem emp_bad {l : List ByteArray} (h : l.any emp = true) : l.any badR = true := by
  rw [List.any_eq_true] at h ⊢
  obtain ⟨r, hr, he⟩ := h
  refine ⟨r, hr, ?_⟩
  unfold badR
  unfold emp at he
  rw [he]
  rfl
theorem emp_good {l : List ByteArray} (h : l.any emp = false) : ∀ r ∈ l, r.size ≠ 0 := by
  intro r hr e
  have := List.any_eq_false.1 h r hr
  unfold emp at this
  exact this (decide_eq_true e)
/-- Is the disk armed in a round? -/
def cutB (cuts : List Int) (i : Nat) : Bool := decide (0 < cuts.length) && decide (0 < rd cuts ((i % cuts.length : Nat) : Int))

set_option maxHeartbeats 8000000 in
theorem seglogLasts_calls (A0 : Option Addr) (c0 : Nat) (puts : List PutT) (A1 : Option Addr) (c1 : Nat) (cuts : List Int) (A2 : Option Addr) (c2 : Nat) (keeps : List Int) (w : World)
    (hC0 : Kd.C kPut w A0 puts.length puts) (hC1 : (Kd.int .i64).C w A1 cuts.length cuts) (hC2 : (Kd.int .i64).C w A2 keeps.length keeps) (hc2 : keeps.length ≤ c2)
    (hz : ∀ x ∈ puts, ∀ r ∈ x.1, r.size ≤ 140737488351232) (hcb : ∀ x ∈ cuts, -9223372036854775808 ≤ x ∧ x ≤ 9223372036854775807) (hkb : ∀ x ∈ keeps, -9223372036854775808 ≤ x ∧ x ≤ 9223372036854775807) :
    Calls Try.prog 10 #[.slice A0 puts.length c0, .slice A1 cuts.length c1, .slice A2 keeps.length c2] w fun e w' => e = .returned (.bool true) ∧ Below w.heap.size w w' := by
  have hm0 := hC0.2.1
  have hm1 := hC1.2.1
  go_enter Try.func10, Try.ntmps10
  go_wp2_with fail
  refine (new_calls _ 1048576 (by decide) (by decide)).mono ?_
  rintro e w0 ⟨rfl, h0, k0, hz0⟩
  obtain ⟨g, hg⟩ : ∃ g, g = w.heap.size + 1 := ⟨_, rfl⟩
  obtain ⟨m, hm⟩ : ∃ m, m = w.heap.size := ⟨_, rfl⟩
  rw [← hg] at h0 ⊢
  rw [← hm] at h0
  have s0 : Since w w0 g m (Dk.new 1048576) := ⟨h0, by omega, k0⟩
  clear hz0 hg hm h0 k0
  have gd0 : Good (Dk.new 1048576) := good_new' (by decide) (by decide)
  have st0 := st_new 1048576
  have hn0 := newest_empty st0
  have ho0 := openT_none st0 gd0 hn0
  have hop := open_ok s0.disk gd0 rfl ho0.1
  rw [hn0] at hop
  have st1 := ho0.2
  have gd1 := gd0.openT
  obtain ⟨d1, hd1⟩ : ∃ d1, d1 = (openT (Dk.new 1048576)).2 := ⟨_, rfl⟩
  rw [← hd1] at hop st1 gd1
  clear hd1 ho0 hn0 st0 gd0
  go_wp2_with fail
  refine hop.mono ?_
  rintro e w1 ⟨b, A, c, rfl, on1, hc, hC, hb, hA, k1⟩
  clear hop
  have s1 : Sn w w1 g m b d1 ⟨0, false, false⟩ := Sn.first s0 on1 hb k1
  have hl0 : (newOwn (none : Option Own)).length = 0 := rfl
  have inv1 : Inv d1 ⟨0, false, false⟩ 0 [] 0 0 0 := ⟨gd1, (fun r hr => by cases hr), Nat.le_refl _, Nat.zero_le _, rfl, ⟨Int.le_refl 0, Int.le_refl 0⟩, .inl ⟨rfl, st1, rfl, rfl⟩⟩
  clear on1 hC hA k1 hb s0 gd1 st1
  go_wp2_with fail
  go_loopg [9, 12, 13, 14] 40 (fun kq v9 v12 v13 v14 wr => ∃ (i k b : Nat) (d : Dk) (l : Lg) (all syn : List ByteArray) (As : Option Addr) (cs : Nat) (Aa : Option Addr) (ca : Nat), kq + i = 40 ∧ v9 = .pointer (some ⟨b, 0, none⟩) ∧ v12 = .slice As syn.length cs ∧ v13 = .slice Aa all.length ca ∧ v14 = .int .i64 i ∧ Sn w wr g m b d l ∧ Inv d l 0 all k i (2 * i) ∧ Txt wr g m b As cs syn ∧ Txt wr g m b Aa ca all ∧ Hid (syn = all.take k))
  case atStart => exact ⟨0, 0, b, d1, _, [], [], none, 0, none, 0, rfl, rfl, rfl, rfl, rfl, s1, inv1, Txt.nil _ _ _ _, Txt.nil _ _ _ _, rfl⟩
  case round => as_aux_lemma =>
    obtain ⟨i, k, b, d, l, all, syn, As, cs, Aa, ca, hi, rfl, rfl, rfl, rfl, s, inv, ts, ta, Hsyn⟩ := hrel
    clear s1 inv1 hl0
    by_cases hgo : i < puts.length ∧ i < 40
    · have hg1 : (i : Int) < (puts.length : Int) := by omega
      have hg2 : (i : Int) < 40 := by omega
      have hg3 : 0 ≤ (i : Int) := by omega
      obtain ⟨ad, x, K, c, hA0, hx, hlc, hCr, y0, y1, y2⟩ := at_put hC0 i hgo.1
      obtain ⟨rs, sy, co⟩ := x
      subst hA0
      have hzr : ∀ r ∈ rs, r.size ≤ 140737488351232 := hz _ (List.mem_of_getElem? hx)
      have Y0 := Lib.hid y0
      have Y1 := Lib.hid y1
      have Y2 := Lib.hid y2
      have hCr' : Kd.string.C wr K rs.length rs := C_fr flat_string hCr s.fr (fun _ _ => id)
      have hfw := few_calls K c rs wr hCr' hlc hzr
      have z0 := s.fr.cell y0 id
      clear y0 y1 y2 hCr'
      cases hf : fewB rs with
      | false =>
        rw [hf] at hfw
        go_wp2_with fail
        refine hfw.mono ?_
        rintro e w2 ⟨rfl, k2⟩
        go_wp2_with fail
        refine (awake17_calls _).mono ?_
        rintro e w3 ⟨rfl, b3⟩
        go_wp2
        go_ret
        exact ⟨rfl, ((s.fr.trans k2).trans (Fr.of_below b3)).to_below (fun _ _ => id)⟩
      | true =>
        rw [hf] at hfw
        have Hf := Lib.hid hf
        clear hf
        go_wp2_with fail
        refine hfw.mono ?_
        rintro e w2 ⟨rfl, k2⟩
        have s2 := s.keep k2
        have ts2 := ts.keep k2
        have ta2 := ta.keep k2
        clear hfw z0 s ts ta k2
        go_upto_region 14 with (fail)
        -- is the disk armed in this round?
        go_cut [15] (fun v15 wc => v15 = .bool (cutB cuts i) ∧ w2 = wc)
        case first => as_aux_lemma =>
          --{
          by_cases hcl : 0 < cuts.length
          · have hclI : 0 < (cuts.length : Int) := by omega
            have hm0' : 0 ≤ (i : Int) % (cuts.length : Int) := Int.emod_nonneg _ (by omega)
            have hm1' : (i : Int) % (cuts.length : Int) < (cuts.length : Int) := Int.emod_lt_of_pos _ hclI
            have heq : (i : Int) % (cuts.length : Int) = ((i % cuts.length : Nat) : Int) := (Int.natCast_emod _ _).symm
            obtain ⟨ac, hA1, hcell⟩ := Kd.at_int hC1 ((i % cuts.length : Nat) : Int) (by omega) (by rw [← heq]; exact hm1')
            rw [Int.toNat_natCast] at hcell
            clear heq
            subst hA1
            have hcell2 := s2.fr.cell hcell id
            obtain ⟨v, hv⟩ : ∃ v, v = rd cuts ((i % cuts.length : Nat) : Int) := ⟨_, rfl⟩
            rw [← hv] at hcell2
            have hne : ¬ ((cuts.length : Int) = 0) := by omega
            by_cases hvp : 0 < v
            · have hcb' : cutB cuts i = true := by unfold cutB; rw [decide_eq_true hcl, ← hv, decide_eq_true hvp]; rfl
              have Hcb := Lib.hid hcb'
              clear hcb' hv hcell
              go_wp2
              go_meet
              case rel => exact ⟨by rw [Hcb.out], rfl⟩
            · have hcb' : cutB cuts i = false := by unfold cutB; rw [decide_eq_true hcl, ← hv, decide_eq_false hvp]; rfl
              have Hcb := Lib.hid hcb'
              clear hcb' hv hcell
              go_wp2
              go_meet
              case rel => exact ⟨by rw [Hcb.out], rfl⟩
          · have hclI : ¬ (0 < (cuts.length : Int)) := by omega
            have hcb' : cutB cuts i = false := by unfold cutB; rw [decide_eq_false hcl]; rfl
            have Hcb := Lib.hid hcb'
            clear hcb'
            go_wp2
            go_meet
            case rel => exact ⟨by rw [Hcb.out], rfl⟩
          --}
        case rest => as_aux_lemma =>
          obtain ⟨rfl, rfl⟩ := hcut
          obtain ⟨cu, hcu⟩ : ∃ cu, cu = cutB cuts i := ⟨_, rfl⟩
          rw [← hcu]
          have Hcu := Lib.hid hcu; clear hcu
          go_upto_if 81 with (fail)
          go_cut [15] (fun v15 wc => v15 = .bool cu ∧ ∃ (a0 : Int) (d3 : Dk), Sn w wc g m b d3 l ∧ Inv d3 l a0 all k i (2 * i) ∧ 0 ≤ a0 ∧ Hid (cu = false → a0 = 0) ∧ Txt wc g m b As cs syn ∧ Txt wc g m b Aa ca all)
          case first => as_aux_lemma =>
            --{
            cases cu with
            | false =>
              go_wp2
              go_meet
              case rel => exact ⟨rfl, 0, d, s2, inv, Int.le_refl 0, Lib.hid (fun _ => rfl), ts2, ta2⟩
            | true =>
              have hcb' := Hcu.out.symm
              unfold cutB at hcb'
              rw [Bool.and_eq_true, decide_eq_true_eq, decide_eq_true_eq] at hcb'
              obtain ⟨hcl, hvp⟩ := hcb'
              have hclI : 0 < (cuts.length : Int) := by omega
              have hm0' : 0 ≤ (i : Int) % (cuts.length : Int) := Int.emod_nonneg _ (by omega)
              have hm1' : (i : Int) % (cuts.length : Int) < (cuts.length : Int) := Int.emod_lt_of_pos _ hclI
              have heq : (i : Int) % (cuts.length : Int) = ((i % cuts.length : Nat) : Int) := (Int.natCast_emod _ _).symm
              obtain ⟨ac, hA1, hcell⟩ := Kd.at_int hC1 ((i % cuts.length : Nat) : Int) (by omega) (by rw [← heq]; exact hm1')
              rw [Int.toNat_natCast] at hcell
              clear heq
              subst hA1
              have hcell2 := s2.fr.cell hcell id
              obtain ⟨v, hv⟩ : ∃ v, v = rd cuts ((i % cuts.length : Nat) : Int) := ⟨_, rfl⟩
              rw [← hv] at hcell2 hvp
              have hne : ¬ ((cuts.length : Int) = 0) := by omega
              clear hv hcell
              go_wp2_with fail
              refine (arm_calls s2.on.disk (v % 6)).mono ?_
              rintro e w3 ⟨rfl, h3, k3⟩
              obtain ⟨_, j3⟩ := s2.on.onDisk h3 k3
              have s3 := s2.nextD h3 k3
              have inv3 := inv.arm (n := v % 6) (by omega) (by omega)
              have ts3 := ts2.fr j3
              have ta3 := ta2.fr j3
              go_wp2
              go_meet
              case rel => exact ⟨rfl, v % 6, _, s3, inv3, by omega, Lib.hid (fun e => by cases e), ts3, ta3⟩
            --}
          case rest => as_aux_lemma =>
            obtain ⟨rfl, a0, d3, s3, inv3, ha0, hcu0, ts3, ta3⟩ := hcut
            clear s2 inv ts2 ta2
            have z0 := s3.fr.cell Y0.out id
            have hCr3 : Kd.string.C _ K rs.length rs := C_fr flat_string hCr s3.fr (fun _ _ => id)
            have hmr := hCr.2.1
            go_wp2_with fail
            -- are the records right?
            go_loopg [16, 17] rs.length (fun kj v16 v17 wl => ∃ j : Nat, kj + j = rs.length ∧ v17 = .int .i64 j ∧ v16 = .bool (!((rs.take j).any emp)) ∧ wc = wl)
            case atStart => exact ⟨0, rfl, rfl, rfl, rfl⟩
            case round => as_aux_lemma =>
              obtain ⟨j, hj, rfl, rfl, rfl⟩ := hrel
              by_cases hlt : j < rs.length
              · --{
                have hltI : (j : Int) < (rs.length : Int) := by omega
                obtain ⟨ar, hAr, hcell⟩ := Kd.at_string hCr3 (j : Int) (by omega) hltI
                rw [Int.toNat_natCast, rdOf_get hlt] at hcell
                obtain ⟨r, hr⟩ : ∃ r, r = rs[j] := ⟨_, rfl⟩
                rw [← hr] at hcell
                have hnext := any_take hlt
                rw [← hr] at hnext
                subst hAr
                clear hr
                cases hany : (rs.take j).any emp with
                | true =>
                  rw [hany] at hnext
                  have Hn := Lib.hid hnext
                  clear hnext hany
                  go_wp2
                  go_roundg (rs.length - (j + 1))
                  case measure => omega
                  case rel => exact ⟨j + 1, by omega, by go_num, by rw [Hn.out]; rfl, rfl⟩
                | false =>
                  rw [hany] at hnext
                  by_cases he : r.size = 0
                  · have hn2 : (rs.take (j + 1)).any emp = true := by rw [hnext]; unfold emp; rw [decide_eq_true he]; rfl
                    have Hn := Lib.hid hn2
                    obtain rfl : r = ByteArray.empty := ByteArray.size_eq_zero_iff.1 he
                    clear hnext hany hn2 he
                    go_wp2
                    go_roundg (rs.length - (j + 1))
                    case measure => omega
                    case rel => exact ⟨j + 1, by omega, by go_num, by rw [Hn.out]; rfl, rfl⟩
                  · have hn2 : (rs.take (j + 1)).any emp = false := by rw [hnext]; unfold emp; rw [decide_eq_false he]; rfl
                    have Hn := Lib.hid hn2
                    have hne2 := toList_ne he
                    have hne1 : r.toList.isEmpty = false := by
                      cases h : r.toList with
                      | nil => exact absurd h hne2
                      | cons => rfl
                    clear hnext hany hn2 he
                    go_wp2
                    go_roundg (rs.length - (j + 1))
                    case measure => omega
                    case rel => exact ⟨j + 1, by omega, by go_num, by rw [Hn.out]; rfl, rfl⟩
                --}
              · have hge : ¬ ((j : Int) < (rs.length : Int)) := by omega
                have hjr : rs.take j = rs := List.take_of_length_le (by omega)
                rw [hjr]
                clear hjr hj hlt
                obtain ⟨rt, hrt⟩ : ∃ rt, rt = !(rs.any emp) := ⟨_, rfl⟩
                rw [← hrt]
                have Hrt := Lib.hid hrt; clear hrt
                obtain ⟨allN, hallN⟩ : ∃ allN, allN = if rt then all ++ rs else all := ⟨_, rfl⟩
                have HallN := Lib.hid hallN; clear hallN
                have hzf : (framesL rs).length ≤ 1099511627776 := by have := few_len' Hf.out; omega
                go_upto_region 22 with (fail)
                -- Append
                go_cut [18] (fun v18 wd => ∃ (a18 : Int) (d4 : Dk) (l4 : Lg), v18 = .int .i64 a18 ∧ Sn w wd g m b d4 l4 ∧ Hid (Tri a18 a0 d4 l4 allN k (i + 1) (2 * i) ∧ (rt = false → a18 = 1) ∧ (rt = true → a18 ≠ 1)) ∧ Txt wd g m b As cs syn ∧ Txt wd g m b Aa ca all)
                case first => as_aux_lemma =>
                  --{
                  have happ := lappend_calls s3.on inv3.gd.ok' K c rs hCr3 hzf
                  cases hre : rs.any emp with
                  | true =>
                    obtain ⟨e1, e2, e3⟩ := inv_bad inv3 (emp_bad hre)
                    rw [e1, e2, e3] at happ
                    have hrt' : rt = false := by rw [Hrt.out, hre]; rfl
                    have hall' : allN = all := by rw [HallN.out, hrt']; rfl
                    have Hs := Lib.hid (And.intro hrt' hall')
                    clear hre e1 e2 e3 hrt' hall'
                    go_wp2_with fail
                    refine happ.mono ?_
                    rintro e w4 ⟨rfl, on4, k4⟩
                    have s4 := s3.next on4 k4
                    have ts4 := ts3.fr k4
                    have ta4 := ta3.fr k4
                    go_wp2
                    go_meet
                    case rel => exact ⟨1, d3, l, rfl, s4, Lib.hid ⟨.inl ⟨.inr rfl, a0, ha0, fun e => e, by rw [Hs.out.2]; exact inv3.up (by omega) (Nat.le_refl _)⟩, fun _ => rfl, fun e => by rw [Hs.out.1] at e; cases e⟩, ts4, ta4⟩
                  | false =>
                    have hrt' : rt = true := by rw [Hrt.out, hre]; rfl
                    have hall' : allN = all ++ rs := by rw [HallN.out, hrt']; rfl
                    have hgood : goods rs := few_goods' Hf.out (emp_good hre)
                    cases hrs : rs with
                    | nil =>
                      obtain ⟨e1, e2, e3⟩ := inv_none inv3
                      rw [hrs, e1, e2, e3] at happ
                      rw [hrs, List.append_nil] at hall'
                      have Hs := Lib.hid (And.intro hrt' hall')
                      have Hrs := Lib.hid hrs
                      rw [hrs] at z0
                      clear hre e1 e2 e3 hrt' hall' hrs
                      go_wp2_with fail
                      refine happ.mono ?_
                      rintro e w4 ⟨rfl, on4, k4⟩
                      have s4 := s3.next on4 k4
                      have ts4 := ts3.fr k4
                      have ta4 := ta3.fr k4
                      go_wp2
                      go_meet
                      case rel => exact ⟨0, d3, l, rfl, s4, Lib.hid ⟨.inl ⟨.inl rfl, a0, ha0, fun e => e, by rw [Hs.out.2]; exact inv3.up (by omega) (Nat.le_refl _)⟩, (fun e => by rw [Hs.out.1] at e; cases e), fun _ => by decide⟩, ts4, ta4⟩
                    | cons r0 rs0 =>
                      obtain ⟨e1, e2, e3⟩ := inv_app inv3 ha0 (by omega) (by omega) hgood (by rw [hrs]; simp) (frames_put hgood Hf.out)
                      rw [e1] at happ
                      have Hs := Lib.hid (And.intro hrt' (And.intro hall' (And.intro e2 e3)))
                      obtain ⟨d4, hd4⟩ : ∃ d4, d4 = l.appD d3 rs := ⟨_, rfl⟩
                      obtain ⟨l4, hl4⟩ : ∃ l4, l4 = l.app d3 rs := ⟨_, rfl⟩
                      rw [← hd4, ← hl4] at Hs happ
                      clear hre e1 e2 e3 hrt' hall' hrs hd4 hl4 hgood
                      go_wp2_with fail
                      refine happ.mono ?_
                      rintro e w4 ⟨rfl, on4, k4⟩
                      have s4 := s3.next on4 k4
                      have ts4 := ts3.fr k4
                      have ta4 := ta3.fr k4
                      go_wp2
                      go_meet
                      case rel =>
                        refine ⟨diesE a0, d4, l4, rfl, s4, Lib.hid ⟨?_, (fun e => by rw [Hs.out.1] at e; cases e), fun _ => by unfold diesE; split <;> decide⟩, ts4, ta4⟩
                        rw [Hs.out.2.1]
                        by_cases h1 : a0 = 1
                        · exact .inr ⟨by rw [h1]; rfl, by omega, Hs.out.2.2.1 h1⟩
                        · refine .inl ⟨.inl (by unfold diesE; rw [if_neg h1]), armN a0, by have := armN_cases a0; omega, fun e => by subst e; rfl, Hs.out.2.2.2 h1⟩
                  --}
                case rest => as_aux_lemma =>
                  obtain ⟨a18, d4, l4, rfl, s4, htri, ts4, ta4⟩ := hcut
                  have Hkle := Lib.hid inv3.kle
                  clear s3 inv3 ts3 ta3 z0 hCr3
                  go_upto_region 23 with (fail)
                  go_cut [145] (fun v145 we => v145 = .bool false ∧ wc = we)
                  case first => as_aux_lemma =>
                    --{
                    obtain ⟨tri, hr0, hr1⟩ := htri.out
                    cases rt with
                    | false =>
                      obtain rfl := hr0 rfl
                      clear tri hr0 hr1 htri
                      go_wp2
                      go_meet
                      case rel => exact ⟨rfl, rfl⟩
                    | true =>
                      rcases tri with ⟨h01, _⟩ | ⟨h50, hne, _⟩
                      · have h0 : a18 = 0 := by rcases h01 with h | h; exact h; exact absurd h (hr1 rfl)
                        subst h0
                        clear hr0 hr1 htri h01
                        go_wp2
                        go_meet
                        case rel => exact ⟨rfl, rfl⟩
                      · subst h50
                        have hcut1 : cu = true := by
                          cases hc : cu with
                          | true => rfl
                          | false => exact absurd (hcu0.out hc) hne
                        subst hcut1
                        clear hr0 hr1 htri hne
                        go_wp2
                        go_meet
                        case rel => exact ⟨rfl, rfl⟩
                    --}
                  case rest => as_aux_lemma =>
                    obtain ⟨rfl, rfl⟩ := hcut
                    go_upto_if 146 with (fail)
                    -- all the records
                    go_cut [13] (fun v13 we => ∃ (A5 : Option Addr) (c5 : Nat), v13 = .slice A5 allN.length c5 ∧ Sn w we g m b d4 l4 ∧ Txt we g m b As cs syn ∧ Txt we g m b A5 c5 allN)
                    case first => as_aux_lemma =>
                      --{
                      cases rt with
                      | false =>
                        have hall' : allN = all := by rw [HallN.out]; rfl
                        have Hall := Lib.hid hall'
                        clear hall'
                        go_wp2
                        go_meet
                        case rel => exact ⟨Aa, ca, by rw [Hall.out], s4, ts4, by rw [Hall.out]; exact ta4⟩
                      | true =>
                        have hall' : allN = all ++ rs := by rw [HallN.out]; rfl
                        have z0 := s4.fr.cell Y0.out id
                        have hCr4 : Kd.string.C _ K rs.length rs := C_fr flat_string hCr s4.fr (fun _ _ => id)
                        have hsz4 := htri.out.1.pre.size
                        have hlen4 := len_le_frames allN
                        have hlr := len_few Hf.out
                        rw [hall', List.length_append] at hlen4
                        rw [hall'] at hsz4
                        obtain ⟨v5, w5, A5, c5, w6, r5, r6, k5, k6, ta6⟩ := all_run s4.on (c := c) ta4 hCr4 (by omega) hlr
                        have q5 := k5.cell z0 id
                        have q6 := k6.cell z0 id
                        have hne := World.new_ne _ _ z0
                        have s6 := s4.keep k6
                        have ts6 := ts4.keep k6
                        have Hall := Lib.hid hall'
                        clear hall' hsz4 hlen4 hlr k5 k6
                        go_wp2_with fail
                        go_region_held3 (fun w' => w'.cell? (ad.add (i * 3)) = some (.slice K rs.length c)) (go_keep)
                          ((first | (refine step_app (by rfl) _ _ (by rfl) (by rfl) (by rfl) (by rfl) r5 ?_) | (refine step_app (by rfl) _ _ (by rfl) (by rfl) (by rfl) (by rfl) r6 ?_)))
                        go_wp2
                        go_meet
                        case rel => exact ⟨A5, c5, by rw [Hall.out, List.length_append], s6, ts6, by rw [Hall.out]; exact ta6⟩
                      --}
                    case rest => as_aux_lemma =>
                      obtain ⟨A5, c5, rfl, s5, ts5, ta5⟩ := hcut
                      have tri5 := Lib.hid htri.out.1
                      have Hsyn5 : Hid (syn = allN.take k) := Lib.hid (by
                        have h := Hsyn.out
                        rw [HallN.out]
                        cases rt with
                        | false => exact h
                        | true => exact h.trans (List.take_append_of_le_length Hkle.out).symm)
                      clear s4 ts4 ta4 htri HallN Hrt Hsyn Hkle
                      have z1 := s5.fr.cell Y1.out id
                      go_upto_region 27 with (fail)
                      go_cut [164] (fun v164 we => v164 = .bool (a18 == 0 && sy) ∧ wc = we)
                      case first => as_aux_lemma =>
                        --{
                        by_cases h0 : a18 = 0
                        · subst h0
                          clear tri5
                          go_wp2
                          go_meet
                          case rel => exact ⟨rfl, rfl⟩
                        · have hb : (a18 == 0) = false := beq_eq_false_iff_ne.2 h0
                          clear h0 tri5
                          go_wp2
                          go_meet
                          case rel => exact ⟨by rw [hb]; rfl, rfl⟩
                        --}
                      case rest => as_aux_lemma =>
                        obtain ⟨rfl, rfl⟩ := hcut
                        clear z1
                        go_upto_if 164 with (fail)
                        -- Sync
                        go_cut [12, 18] (fun v12 v18 we => ∃ (b18 : Int) (k6 : Nat) (syn6 : List ByteArray) (A6 : Option Addr) (c6 : Nat) (d6 : Dk) (l6 : Lg), v12 = .slice A6 syn6.length c6 ∧ v18 = .int .i64 b18 ∧ Sn w we g m b d6 l6 ∧ Hid (Tri b18 a0 d6 l6 allN k6 (i + 1) (2 * i)) ∧ Hid (syn6 = allN.take k6) ∧ Txt we g m b A6 c6 syn6 ∧ Txt we g m b A5 c5 allN)
                        case first => as_aux_lemma =>
                          --{
                          cases hgo2 : (a18 == 0 && sy) with
                          | false =>
                            clear hgo2
                            go_wp2
                            go_meet
                            case rel => exact ⟨a18, k, syn, As, cs, d4, l4, rfl, rfl, s5, tri5, Hsyn5, ts5, ta5⟩
                          | true =>
                            rw [Bool.and_eq_true] at hgo2
                            obtain rfl : a18 = 0 := beq_iff_eq.1 hgo2.1
                            obtain ⟨a', ha', h00, inv4⟩ : ∃ a', 0 ≤ a' ∧ (a0 = 0 → a' = 0) ∧ Inv d4 l4 a' allN k (i + 1) (2 * i) := by
                              rcases tri5.out with ⟨_, h⟩ | ⟨h, _⟩
                              · exact h
                              · cases h
                            obtain ⟨e1, e2, e3⟩ := inv_sync inv4 ha' (by omega) (by omega)
                            have hsy := lsync_calls s5.on inv4.gd.ok'
                            obtain ⟨E, hE⟩ : ∃ E, E = l4.syncE d4 := ⟨_, rfl⟩
                            obtain ⟨d6, hd6⟩ : ∃ d6, d6 = l4.syncD d4 := ⟨_, rfl⟩
                            obtain ⟨l6, hl6⟩ : ∃ l6, l6 = l4.sync d4 := ⟨_, rfl⟩
                            rw [← hE] at e1 e2 e3 hsy
                            rw [← hd6] at e2 e3 hsy
                            rw [← hl6] at e3 hsy
                            have He := Lib.hid (And.intro e2 (And.intro e3 h00))
                            clear hE hd6 hl6 e2 e3 h00 hgo2
                            rcases e1 with rfl | rfl
                            · go_wp2_with fail
                              refine hsy.mono ?_
                              rintro e w6 ⟨rfl, on6, k6⟩
                              have s6 := s5.next on6 k6
                              have ta6 := ta5.fr k6
                              clear hsy
                              go_wp2
                              go_meet
                              case rel =>
                                obtain ⟨a2, h1, h2, h3⟩ := He.out.2.1 (by first | exact rfl | trivial)
                                refine ⟨0, allN.length, allN, A5, c5, d6, l6, rfl, rfl, s6, Lib.hid (.inl ⟨.inl rfl, a2, h1, fun e => h2 (He.out.2.2 e), h3⟩), Lib.hid (by rw [List.take_length]), ta6, ta6⟩
                            · go_wp2_with fail
                              refine hsy.mono ?_
                              rintro e w6 ⟨rfl, on6, k6⟩
                              have s6 := s5.next on6 k6
                              have ta6 := ta5.fr k6
                              have ts6 := ts5.fr k6
                              clear hsy
                              go_wp2
                              go_meet
                              case rel =>
                                obtain ⟨h1, h2⟩ := He.out.1 (by first | exact rfl | trivial)
                                refine ⟨50, k, syn, As, cs, d6, l6, rfl, rfl, s6, Lib.hid (.inr ⟨rfl, (fun e => by have := He.out.2.2 e; omega), h2⟩), Hsyn5, ts6, ta6⟩
                          --}
                        case rest => as_aux_lemma =>
                          obtain ⟨b18, k6, syn6, A6, c6, d6, l6, rfl, rfl, s6, tri6, hsyn6, ts6, ta6⟩ := hcut
                          clear s5 ts5 ta5 tri5 Hsyn5
                          have z2 := s6.fr.cell Y2.out id
                          go_upto_region 31 with (fail)
                          go_cut [178] (fun v178 we => v178 = .bool (b18 == 0 && co) ∧ wc = we)
                          case first => as_aux_lemma =>
                            --{
                            by_cases h0 : b18 = 0
                            · subst h0
                              clear tri6
                              go_wp2
                              go_meet
                              case rel => exact ⟨rfl, rfl⟩
                            · have hb : (b18 == 0) = false := beq_eq_false_iff_ne.2 h0
                              clear h0 tri6
                              go_wp2
                              go_meet
                              case rel => exact ⟨by rw [hb]; rfl, rfl⟩
                            --}
                          case rest => as_aux_lemma =>
                            obtain ⟨rfl, rfl⟩ := hcut
                            clear z2
                            go_upto_if 178 with (fail)
                            -- Compact
                            go_cut [12, 18] (fun v12 v18 we => ∃ (b18 : Int) (k6 : Nat) (syn6 : List ByteArray) (A6 : Option Addr) (c6 : Nat) (d6 : Dk) (l6 : Lg), v12 = .slice A6 syn6.length c6 ∧ v18 = .int .i64 b18 ∧ Sn w we g m b d6 l6 ∧ Hid (Tri b18 a0 d6 l6 allN k6 (i + 1) (2 * i + 1)) ∧ Hid (syn6 = allN.take k6) ∧ Txt we g m b A6 c6 syn6 ∧ Txt we g m b A5 c5 allN)
                            case first => as_aux_lemma =>
                              --{
                              cases hgo2 : (b18 == 0 && co) with
                              | false =>
                                have tri6' := Lib.hid (tri6.out.up (Nat.le_succ (2 * i)))
                                clear hgo2 tri6
                                go_wp2
                                go_meet
                                case rel => exact ⟨b18, k6, syn6, A6, c6, d6, l6, rfl, rfl, s6, tri6', hsyn6, ts6, ta6⟩
                              | true =>
                                rw [Bool.and_eq_true] at hgo2
                                obtain rfl : b18 = 0 := beq_iff_eq.1 hgo2.1
                                obtain ⟨a', ha', h00, inv4⟩ : ∃ a', 0 ≤ a' ∧ (a0 = 0 → a' = 0) ∧ Inv d6 l6 a' allN k6 (i + 1) (2 * i) := by
                                  rcases tri6.out with ⟨_, h⟩ | ⟨h, _⟩
                                  · exact h
                                  · cases h
                                obtain ⟨e1, e2, e3⟩ := inv_comp inv4 ha' (by omega) (by omega)
                                have hf6 := inv4.file
                                have hsz6 := inv4.size
                                have hco := lcompact_calls s6.on inv4.gd A5 c5 allN ta6.C (by rw [← framesOf_size]; omega) (by omega)
                                obtain ⟨R, hR⟩ : ∃ R, R = l6.comp d6 allN := ⟨_, rfl⟩
                                rw [← hR] at e1 e2 e3 hco
                                obtain ⟨E, hE⟩ : ∃ E, E = R.e := ⟨_, rfl⟩
                                obtain ⟨d7, hd7⟩ : ∃ d7, d7 = R.d := ⟨_, rfl⟩
                                obtain ⟨l7, hl7⟩ : ∃ l7, l7 = R.l := ⟨_, rfl⟩
                                rw [← hE] at e1 e2 e3 hco
                                rw [← hd7] at e2 e3 hco
                                rw [← hl7] at e3 hco
                                have He := Lib.hid (And.intro e2 (And.intro e3 h00))
                                clear hR hE hd7 hl7 e2 e3 h00 hgo2 hf6 hsz6
                                rcases e1 with rfl | rfl
                                · go_wp2_with fail
                                  refine hco.mono ?_
                                  rintro e w7 ⟨rfl, on7, k7⟩
                                  have s7 := s6.next on7 k7
                                  have ta7 := ta6.fr k7
                                  clear hco
                                  go_wp2
                                  go_meet
                                  case rel =>
                                    obtain ⟨a2, h1, h2, h3⟩ := He.out.2.1 (by first | exact rfl | trivial)
                                    refine ⟨0, allN.length, allN, A5, c5, d7, l7, rfl, rfl, s7, Lib.hid (.inl ⟨.inl rfl, a2, h1, fun e => h2 (He.out.2.2 e), h3⟩), Lib.hid (by rw [List.take_length]), ta7, ta7⟩
                                · go_wp2_with fail
                                  refine hco.mono ?_
                                  rintro e w7 ⟨rfl, on7, k7⟩
                                  have s7 := s6.next on7 k7
                                  have ta7 := ta6.fr k7
                                  have ts7 := ts6.fr k7
                                  clear hco
                                  go_wp2
                                  go_meet
                                  case rel =>
                                    obtain ⟨h1, h2⟩ := He.out.1 (by first | exact rfl | trivial)
                                    refine ⟨50, k6, syn6, A6, c6, d7, l7, rfl, rfl, s7, Lib.hid (.inr ⟨rfl, (fun e => by have := He.out.2.2 e; omega), h2.up (Nat.le_refl _) (Nat.le_succ _)⟩), hsyn6, ts7, ta7⟩
                              --}
                            case rest => as_aux_lemma =>
                              obtain ⟨e18, k7, syn7, A7, c7, d7, l7, rfl, rfl, s7, tri7, hsyn7, ts7, ta7⟩ := hcut
                              clear s6 ts6 ta6 tri6 hsyn6
                              go_upto_region 35 with (fail)
                              go_cut [202] (fun v202 we => v202 = .bool false ∧ wc = we)
                              case first => as_aux_lemma =>
                                --{
                                rcases tri7.out with ⟨h01, _⟩ | ⟨h50, hne, _⟩
                                · clear tri7
                                  rcases h01 with rfl | rfl
                                  · go_wp2
                                    go_meet
                                    case rel => exact ⟨rfl, rfl⟩
                                  · go_wp2
                                    go_meet
                                    case rel => exact ⟨rfl, rfl⟩
                                · subst h50
                                  have hcut1 : cu = true := by
                                    cases hc : cu with
                                    | true => rfl
                                    | false => exact absurd (hcu0.out hc) hne
                                  subst hcut1
                                  clear tri7 hne
                                  go_wp2
                                  go_meet
                                  case rel => exact ⟨rfl, rfl⟩
                                --}
                              case rest => as_aux_lemma =>
                                obtain ⟨rfl, rfl⟩ := hcut
                                cases cu with
                                | false =>
                                  --{
                                  obtain ⟨inv7⟩ : Nonempty (PLift (Inv d7 l7 0 allN k7 (i + 1) (2 * i + 1))) := by
                                    have h00 := hcu0.out rfl
                                    rcases tri7.out with ⟨_, a', _, h2, h3⟩ | ⟨_, hne, _⟩
                                    · rw [h2 h00] at h3
                                      exact ⟨⟨h3⟩⟩
                                    · exact absurd h00 hne
                                  have inv8 := inv7.down.up (Nat.le_refl (i + 1)) (show 2 * i + 1 ≤ 2 * (i + 1) by omega)
                                  clear tri7 inv7 hcu0
                                  go_wp2
                                  go_roundg (40 - (i + 1))
                                  case measure => omega
                                  case rel => exact ⟨i + 1, k7, b, d7, l7, allN, syn7, A7, c7, A5, c5, by omega, rfl, rfl, rfl, by go_num, s7, inv8, ts7, ta7, hsyn7⟩
                                  --}
                                | true => as_aux_lemma =>
                                  have pre7 := tri7.out.pre
                                  have hC2' : (Kd.int .i64).C _ A2 keeps.length keeps := C_fr (flat_int _) hC2 s7.fr (fun _ _ => id)
                                  have hfar : keeps ≠ [] → ∀ a, A2 = some a → a.block ≠ g ∧ a.block ≠ m := by
                                    intro hne a ha
                                    have h1 := keeps_far hC2 hne a ha
                                    have h2 := s7.new
                                    omega
                                  have hcr := crash_calls0 s7.on.disk pre7.gd.ok' pre7.gd.sound A2 c2 keeps hc2 hC2' hfar hkb
                                  have post := pre_crash pre7 keeps (fun x hx => (hkb x hx).1)
                                  obtain ⟨ho1, j9, hj1, hj2, hown, inv9⟩ := post_open post (by omega) (by omega)
                                  have gd8 := post.gd
                                  have hdd : (d7.crash keeps).dead = false := rfl
                                  have hop := fun (W : World) (o : DiskAt W g m (d7.crash keeps)) => open_ok o gd8 hdd ho1
                                  rw [hown] at hop
                                  obtain ⟨own, hOwn⟩ : ∃ own, own = allN.take j9 := ⟨_, rfl⟩
                                  obtain ⟨l9, hl9⟩ : ∃ l9, l9 = newLog (newestD (d7.crash keeps)) := ⟨_, rfl⟩
                                  obtain ⟨d9, hd9⟩ : ∃ d9, d9 = (openT (d7.crash keeps)).2 := ⟨_, rfl⟩
                                  obtain ⟨d8, hd8⟩ : ∃ d8, d8 = d7.crash keeps := ⟨_, rfl⟩
                                  rw [← hOwn, ← hl9, ← hd9] at inv9
                                  rw [← hOwn, ← hl9, ← hd9, ← hd8] at hop
                                  rw [← hd8] at hcr
                                  have hlo : own.length = j9 := by rw [hOwn, List.length_take]; omega
                                  have hls : syn7.length = k7 := by rw [hsyn7.out, List.length_take]; have := pre7.kle; omega
                                  have hb1 : syn7.length ≤ own.length := by omega
                                  have hb2 : syn7 = own.take syn7.length := by
                                    rw [hls, hOwn, List.take_take, Nat.min_eq_left hj1]
                                    exact hsyn7.out
                                  have hb3 : own.length ≤ allN.length := by omega
                                  have hb4 : own = allN.take own.length := by rw [hlo]; exact hOwn
                                  have Hb := Lib.hid (And.intro hb1 (And.intro hb2 (And.intro hb3 hb4)))
                                  have Hop := Lib.hid hop
                                  have Inv9 := Lib.hid inv9
                                  clear hop hb1 hb2 hb3 hb4 hlo hls hOwn hl9 hd9 hd8 hown ho1 post gd8 hdd pre7 tri7 hC2' hfar hj1 hj2 inv9 hcu0
                                  go_wp2_with fail
                                  refine hcr.mono ?_
                                  rintro e w8 ⟨rfl, h8, k8⟩
                                  obtain ⟨_, j8⟩ := s7.on.onDisk h8 k8
                                  have s8 := s7.nextD h8 k8
                                  have ts8 := ts7.fr j8
                                  have ta8 := ta7.fr j8
                                  clear hcr h8 k8 j8 s7 ts7 ta7
                                  go_wp2_with fail
                                  refine (Hop.out w8 s8.on.disk).mono ?_
                                  rintro e w9 ⟨b9, A9, c9, rfl, on9, hc9, hC9, hb9, hA9, k9⟩
                                  have s9 := s8.again on9 hb9 k9
                                  have ts9 := ts8.again k9 hb9
                                  have ta9 := ta8.again k9 hb9
                                  have tn9 : Txt w9 g m b9 A9 c9 own := ⟨hC9, hc9, fun _ a ha e => by
                                    have h1 := hA9 a ha
                                    have h2 := lt_blk s8.on.disk.blk
                                    have h3 := s8.on.disk.map.lt
                                    rcases e with e | e | e <;> omega⟩
                                  have hbe := begins_calls A7 c7 syn7 A9 c9 own w9 ts9.C ts9.cap tn9.C tn9.cap Hb.out.1 Hb.out.2.1
                                  clear Hop on9 hC9 hA9 k9 hb9 hc9 s8 ts8 ta8
                                  go_wp2_with fail
                                  refine hbe.mono ?_
                                  rintro e w10 ⟨rfl, k10⟩
                                  have s10 := s9.keep k10
                                  have ta10 := ta9.keep k10
                                  have tn10 := tn9.keep k10
                                  have hbe2 := begins_calls A9 c9 own A5 c5 allN w10 tn10.C tn10.cap ta10.C ta10.cap Hb.out.2.2.1 Hb.out.2.2.2
                                  clear hbe k10 s9 ts9 ta9 tn9
                                  go_wp2_with fail
                                  refine hbe2.mono ?_
                                  rintro e w11 ⟨rfl, k11⟩
                                  have s11 := s10.keep k11
                                  have tn11 := tn10.keep k11
                                  obtain ⟨i1, i2, i3⟩ := inv_again Inv9.out (by omega) (by omega)
                                  have hop2 := open_ok s11.on.disk Inv9.out.gd Inv9.out.awake i1
                                  rw [i2] at hop2
                                  obtain ⟨d12, hd12⟩ : ∃ d12, d12 = (openT d9).2 := ⟨_, rfl⟩
                                  rw [← hd12] at hop2 i3
                                  have Inv12 := Lib.hid i3
                                  clear hbe2 k11 s10 ta10 tn10 i1 i2 i3 hd12 Inv9
                                  go_wp2_with fail
                                  refine hop2.mono ?_
                                  rintro e w12 ⟨b12, A12, c12, rfl, on12, hc12, hC12, hb12, hA12, k12⟩
                                  obtain ⟨_, j12⟩ := s11.on.onDisk on12.disk k12
                                  have s12 := s11.nextD on12.disk k12
                                  have tn12 := tn11.fr j12
                                  have htx := texts_calls A9 c9 own A12 c12 own w12 tn12.C tn12.cap hC12 hc12
                                  rw [decide_eq_true (rfl : own = own)] at htx
                                  clear hop2 on12 hC12 hA12 hb12 k12 j12 s11 tn11 hc12
                                  go_wp2_with fail
                                  refine htx.mono ?_
                                  rintro e w13 ⟨rfl, k13⟩
                                  have s13 := s12.keep k13
                                  have tn13 := tn12.keep k13
                                  clear htx k13 s12 tn12
                                  go_wp2
                                  go_roundg (40 - (i + 1))
                                  case measure => omega
                                  case rel => exact ⟨i + 1, own.length, b9, d12, l9, own, own, A9, c9, A9, c9, by omega, rfl, rfl, rfl, by go_num, s13, Inv12.out.up (Nat.le_refl _) (by omega), tn13, tn13, Lib.hid (by rw [List.take_length])⟩
    · have hex : (¬ ((i : Int) < (puts.length : Int))) ∨ ((i : Int) < (puts.length : Int) ∧ ¬ ((i : Int) < 40)) := by omega
      clear hgo
      rcases hex with hq | ⟨hq1, hq2⟩
      all_goals
        go_wp2_with fail
        refine (awake17_calls _).mono ?_
        rintro e w7 ⟨rfl, b7⟩
        go_wp2
        go_ret
        exact ⟨rfl, (s.fr.trans (Fr.of_below b7)).to_below (fun _ _ => id)⟩

/-- As the law's row hands it. -/
theorem seglogLasts_row (A0 : Option Addr) (c0 : Nat) (puts : List PutT) {w : World} (hC0 : Kd.C kPut w A0 puts.length puts) (_ : puts.length ≤ c0) (hz : puts.length * Try.prog.bytesOf 63 ≤ 140737488351232 ∧ ∀ x ∈ puts, (x.1.length * Try.prog.bytesOf 9 ≤ 140737488351232 ∧ ∀ r ∈ x.1, r.size ≤ 140737488351232) ∧ True ∧ True)
    (A1 : Option Addr) (c1 : Nat) (cuts : List Int) (hC1 : (Kd.int .i64).C w A1 cuts.length cuts) (_ : cuts.length ≤ c1) (hcb : cuts.length * Try.prog.bytesOf 3 ≤ 140737488351232 ∧ ∀ x ∈ cuts, (Lit.int .i64 x).wf = true)
    (A2 : Option Addr) (c2 : Nat) (keeps : List Int) (hC2 : (Kd.int .i64).C w A2 keeps.length keeps) (hc2 : keeps.length ≤ c2) (hkb : keeps.length * Try.prog.bytesOf 3 ≤ 140737488351232 ∧ ∀ x ∈ keeps, (Lit.int .i64 x).wf = true) (_ : World) :
    Calls Try.prog 10 #[.slice A0 puts.length c0, .slice A1 cuts.length c1, .slice A2 keeps.length c2] w fun e w' => e = .returned (.bool true) ∧ Below w.heap.size w w' :=
  seglogLasts_calls A0 c0 puts A1 c1 cuts A2 c2 keeps w hC0 hC1 hC2 hc2 (fun x hx => (hz.2 x hx).1.2) (fun x hx => Go.bounds_i64 (hcb.2 x hx)) (fun x hx => Go.bounds_i64 (hkb.2 x hx))

end Go.Proofs.Ytljfagagopaidaa
