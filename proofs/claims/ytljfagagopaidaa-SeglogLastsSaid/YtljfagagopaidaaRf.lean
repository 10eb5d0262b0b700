/- The document's disk (its files in a row, rising): what its memory says, and its methods that only read, each walked once. -/
import Derived.Test.YtljfagagopaidaaDb
import Derived.Test.YtljfagagopaidaaWWords
namespace Go.Proofs.Ytljfagagopaidaa
open Go.RowKit Go.Proofs.YtljfagagopaidaaW.PrintWords
set_option linter.unusedSimpArgs false
set_option linter.unusedVariables false
set_option maxRecDepth 100000

def flat3 (l : List Fl) : List Value := l.flatMap fun x => [.int .i64 x.k, .string x.s, .int .i64 x.n]

theorem flat3_length (l : List Fl) : (flat3 l).length = l.length * 3 := by
  induction l with
  | nil => rfl
  | cons x xs ih => show (_ ++ flat3 xs).length = _; rw [List.length_append, ih]; simp; omega

theorem flat3_get : ∀ (l : List Fl) (i : Nat) (x : Fl), l[i]? = some x → (flat3 l)[i * 3]? = some (.int .i64 x.k) ∧ (flat3 l)[i * 3 + 1]? = some (.string x.s) ∧ (flat3 l)[i * 3 + 2]? = some (.int .i64 x.n)
  | [], i, x, h => by simp at h
  | y :: ys, 0, x, h => by
    simp at h
    subst h
    exact ⟨rfl, rfl, rfl⟩
  | y :: ys, i + 1, x, h => by
    have := flat3_get ys i x (by simpa using h)
    have e : ∀ j, (flat3 (y :: ys))[(i + 1) * 3 + j]? = (flat3 ys)[i * 3 + j]? := by
      intro j
      show ([Value.int .i64 y.k, .string y.s, .int .i64 y.n] ++ flat3 ys)[(i + 1) * 3 + j]? = _
      rw [List.getElem?_append_right (by simp; omega)]
      congr 1
      simp
      omega
    exact ⟨(e 0).trans this.1, (e 1).trans this.2.1, (e 2).trans this.2.2⟩

/-- The document's disk at block g, its row v. -/
structure RefAt (w : World) (base g : Nat) (v : Value) (d : Dk) : Prop where
  blk : w.heap[g]? = some (.cells #[v, .int .i64 d.limit, .int .i64 d.armed, .bool d.dead, .int .i64 d.steps] 82 (0, 0))
  row : w.ownsRow base 87 3 v d.files.length (flat3 d.files)
  ge : base ≤ g
  srt : d.files.Pairwise (fun a b => a.k < b.k)
  keys : ∀ x ∈ d.files, 0 ≤ x.k ∧ x.k < 65536

theorem srt_few (lo hi : Int) : ∀ (l : List Fl), l.Pairwise (fun a b => a.k < b.k) → (∀ x ∈ l, lo ≤ x.k ∧ x.k < hi) → (l.length : Int) ≤ hi - lo ∨ l = []
  | [], _, _ => .inr rfl
  | x :: xs, h, hk => by
    left
    have hx := hk x (by simp)
    rw [List.pairwise_cons] at h
    have : ∀ (ys : List Fl) (a : Int), ys.Pairwise (fun a b => a.k < b.k) → (∀ y ∈ ys, a < y.k ∧ y.k < hi) → a < hi → a + ys.length < hi := by
      intro ys
      induction ys with
      | nil => intro a _ _ h; simpa using h
      | cons y ys ih =>
        intro a hp hy _
        rw [List.pairwise_cons] at hp
        have h0 := hy y (by simp)
        have := ih y.k hp.2 (fun z hz => ⟨hp.1 z hz, (hy z (by simp [hz])).2⟩) h0.2
        simp only [List.length_cons]
        omega
    have := this xs x.k h.2 (fun y hy => ⟨h.1 y hy, (hk y (by simp [hy])).2⟩) hx.2
    simp only [List.length_cons]
    omega
theorem RefAt.few {w : World} {base g : Nat} {v : Value} {d : Dk} (h : RefAt w base g v d) : d.files.length ≤ 65536 := by
  rcases srt_few 0 65536 d.files h.srt h.keys with h | h
  · omega
  · rw [h]; simp

/-- Blocks that such a disk may write. -/
def RefS (w : World) (base : Nat) : Nat → Prop := fun k => base ≤ k ∧ ∃ cs t fr, w.heap[k]? = some (.cells cs t fr) ∧ (t = 82 ∨ t = 87)

theorem RefAt.slice {w : World} {base g : Nat} {v : Value} {d : Dk} (h : RefAt w base g v d) : ∃ A c, v = .slice A d.files.length c := by
  rcases h.row.2 with ⟨rfl, h0⟩ | ⟨b, cap, cur, rfl, _⟩
  · exact ⟨none, 0, by rw [h0]⟩
  · exact ⟨_, _, rfl⟩

theorem own_block {w : World} {base : Nat} {e : TypeId} {size n : Nat} {v : Value} {xs : List Value} (h : w.ownsRow base e size v n xs) (b : Nat) (hb : v.ownBlock = some b) : base ≤ b ∧ ∃ cs, w.heap[b]? = some (.cells cs e (0, 0)) := by
  rcases h.2 with ⟨rfl, _⟩ | ⟨g, cap, cur, rfl, hg, hh, _⟩
  · cases hb
  · injection hb with hb
    subst hb
    exact ⟨hg, cur, hh⟩

theorem RefAt.fr {w w' : World} {base g : Nat} {v : Value} {d : Dk} {S : Nat → Prop} (h : RefAt w base g v d) (k : Fr S w w') (hS : ∀ i, RefS w base i → ¬ S i) : RefAt w' base g v d := by
  refine ⟨k.keep h.blk (hS g ⟨h.ge, _, _, _, h.blk, .inl rfl⟩), own_move h.row fun b hb => ?_, h.ge, h.srt, h.keys⟩
  obtain ⟨hb1, cs, hb2⟩ := own_block h.row b hb
  exact k.block b (lt_blk hb2) (hS b ⟨hb1, _, _, _, hb2, .inr rfl⟩)

theorem RefAt.drewN {w : World} {base g : Nat} {v : Value} {d : Dk} (h : RefAt w base g v d) (n : Nat) : RefAt (w.drewN n) base g v d := h.fr ((Fr.refl (fun _ => False) _).drewN n) (fun _ _ => id)
theorem RefAt.drew {w : World} {base g : Nat} {v : Value} {d : Dk} (h : RefAt w base g v d) : RefAt w.drew base g v d := h.fr ((Fr.refl (fun _ => False) _).drew) (fun _ _ => id)
theorem RefAt.alloc {w : World} {base g : Nat} {v : Value} {d : Dk} (h : RefAt w base g v d) (o : Obj) : RefAt (w.alloc o) base g v d := h.fr ((Fr.refl (fun _ => False) _).alloc o) (fun _ _ => id)

theorem RefAt.c0 {w : World} {base g : Nat} {v : Value} {d : Dk} (h : RefAt w base g v d) : w.cell? ⟨g, 0, none⟩ = some v := (cell_blk h.blk 0).trans rfl
theorem RefAt.c1 {w : World} {base g : Nat} {v : Value} {d : Dk} (h : RefAt w base g v d) : w.cell? ⟨g, 1, none⟩ = some (.int .i64 d.limit) := (cell_blk h.blk 1).trans rfl
theorem RefAt.c2 {w : World} {base g : Nat} {v : Value} {d : Dk} (h : RefAt w base g v d) : w.cell? ⟨g, 2, none⟩ = some (.int .i64 d.armed) := (cell_blk h.blk 2).trans rfl
theorem RefAt.c3 {w : World} {base g : Nat} {v : Value} {d : Dk} (h : RefAt w base g v d) : w.cell? ⟨g, 3, none⟩ = some (.bool d.dead) := (cell_blk h.blk 3).trans rfl
theorem RefAt.c4 {w : World} {base g : Nat} {v : Value} {d : Dk} (h : RefAt w base g v d) : w.cell? ⟨g, 4, none⟩ = some (.int .i64 d.steps) := (cell_blk h.blk 4).trans rfl

/-- The cells of a file. -/
theorem RefAt.file {w : World} {base g : Nat} {A : Option Addr} {n c : Nat} {d : Dk} (h : RefAt w base g (.slice A n c) d) {i : Nat} {x : Fl} (hx : d.files[i]? = some x) :
    ∃ ad : Addr, A = some ad ∧ base ≤ ad.block ∧ (∃ cs, w.heap[ad.block]? = some (.cells cs 87 (0, 0))) ∧ w.cell? (ad.add (i * 3)) = some (.int .i64 x.k) ∧ w.cell? ⟨(ad.add (i * 3)).block, (ad.add (i * 3)).off + 1, none⟩ = some (.string x.s) ∧ w.cell? ⟨(ad.add (i * 3)).block, (ad.add (i * 3)).off + 2, none⟩ = some (.int .i64 x.n) ∧
      (∀ j, w.frozen? ⟨(ad.add (i * 3)).block, j, none⟩ = false) ∧ Hid (ad.add (i * 3) = ⟨ad.block, i * 3, none⟩) := by
  have hi : i < d.files.length := (List.getElem?_eq_some_iff.1 hx).1
  rcases h.row.2 with ⟨_, h0⟩ | ⟨b, cap, cur, e, hb, hh, hn, hm, hs, ht⟩
  · omega
  injection e with e1 e2 e3
  subst e1
  obtain ⟨g0, g1, g2⟩ := flat3_get d.files i x hx
  have hadd : (⟨b, 0, none⟩ : Addr).add (i * 3) = ⟨b, i * 3, none⟩ := by
    unfold Addr.add
    split
    · next h => rw [h]
    · simp
  have get : ∀ j u, j < d.files.length * 3 → (flat3 d.files)[j]? = some u → w.cell? ⟨b, j, none⟩ = some u := by
    intro j u hj hu
    rw [cell_blk hh]
    rw [← ht, List.getElem?_take, if_pos hj] at hu
    rw [← hu]
    exact Array.getElem?_toList.symm
  refine ⟨⟨b, 0, none⟩, rfl, hb, ⟨cur, hh⟩, ?_, ?_, ?_, ?_, Lib.hid hadd⟩
  · rw [hadd]; exact get (i * 3) _ (by omega) g0
  · rw [hadd]; exact get (i * 3 + 1) _ (by omega) g1
  · rw [hadd]; exact get (i * 3 + 2) _ (by omega) g2
  · intro j; rw [hadd]; exact free_blk hh j

/-- A file's place: of the first whose number is not less. -/
def plc : List Fl → Int → Nat
  | [], _ => 0
  | x :: xs, f => if f ≤ x.k then 0 else plc xs f + 1
def isAt (l : List Fl) (f : Int) : Bool := (l[plc l f]?).any fun x => x.k == f

theorem plc_here {l : List Fl} {i : Nat} {x : Fl} {f : Int} (hx : l[i]? = some x) (h : f ≤ x.k) (hp : plc (l.drop i) f + i = plc l f) : plc l f = i := by
  have hi := (List.getElem?_eq_some_iff.1 hx).1
  rw [List.drop_eq_getElem_cons hi] at hp
  have : l[i] = x := (List.getElem?_eq_some_iff.1 hx).2
  rw [this] at hp
  unfold plc at hp
  rw [if_pos h] at hp
  unfold plc
  omega
theorem plc_next {l : List Fl} {i : Nat} {x : Fl} {f : Int} (hx : l[i]? = some x) (h : ¬ f ≤ x.k) (hp : plc (l.drop i) f + i = plc l f) : plc (l.drop (i + 1)) f + (i + 1) = plc l f := by
  have hi := (List.getElem?_eq_some_iff.1 hx).1
  rw [List.drop_eq_getElem_cons hi] at hp
  have : l[i] = x := (List.getElem?_eq_some_iff.1 hx).2
  rw [this] at hp
  have e : plc (x :: l.drop (i + 1)) f = plc (l.drop (i + 1)) f + 1 := by
    show (if f ≤ x.k then 0 else _) = _
    rw [if_neg h]
  omega

def atV (l : List Fl) (f : Int) : Value := .tuple #[.int .i64 (plc l f), .bool (isAt l f)]

set_option maxHeartbeats 1000000 in
theorem at_calls {w : World} {base g : Nat} {v : Value} {d : Dk} (h : RefAt w base g v d) (f : Int) :
    Calls Try.prog 56 #[.pointer (some ⟨g, 0, none⟩), .int .i64 f] w fun e w' => e = .returned (atV d.files f) ∧ ∃ n, w' = w.drewN n := by
  obtain ⟨A, c, rfl⟩ := h.slice
  have hfew := h.few
  go_enter Try.func56, Try.ntmps56
  go_wp2
  go_loopg [6] d.files.length (fun kq v6 w' => ∃ i : Nat, kq + i = d.files.length ∧ v6 = .int .i64 i ∧ w' = w ∧ plc (d.files.drop i) f + i = plc d.files f)
  case atStart => exact ⟨0, by omega, rfl, rfl, rfl⟩
  case round =>
    obtain ⟨i, hi, rfl, rfl, hp⟩ := hrel
    have hc0 := h.c0
    rcases Nat.lt_or_ge i d.files.length with hlt | hge
    · obtain ⟨x, hx⟩ : ∃ x, d.files[i]? = some x := ⟨_, List.getElem?_eq_getElem hlt⟩
      obtain ⟨ad, rfl, _, _, k0, _⟩ := h.file hx
      have hl1 : decide ((i : Int) < (d.files.length : Int)) = true := decide_eq_true (by omega)
      have hl2 : (i : Int) < (d.files.length : Int) := by omega
      by_cases hk : f ≤ x.k
      · have hk1 : decide (f ≤ x.k) = true := decide_eq_true hk
        have Hp := Lib.hid (plc_here hx hk hp)
        have Hx := Lib.hid hx
        clear hp hk hx
        go_wp2
        repeat (go_quiet (fail); try go_wp2)
        go_ret2
        refine ⟨?_, _, rfl⟩
        unfold atV isAt
        rw [Hp.out, Hx.out]
        rfl
      · have hk1 : decide (f ≤ x.k) = false := decide_eq_false hk
        have Hp := Lib.hid (plc_next hx hk hp)
        clear hp hk hx
        go_wp2
        go_roundg (d.files.length - (i + 1))
        case measure => omega
        case rel => exact ⟨i + 1, by omega, by go_num, rfl, Hp.out⟩
    · have hl1 : decide ((i : Int) < (d.files.length : Int)) = false := decide_eq_false (by omega)
      have hpe : plc d.files f = d.files.length := by
        rw [List.drop_eq_nil_of_le hge] at hp
        unfold plc at hp
        have : i = d.files.length := by omega
        unfold plc
        omega
      have Hpe := Lib.hid hpe
      clear hpe hp
      go_wp2
      go_ret2
      refine ⟨?_, 0, rfl⟩
      unfold atV isAt
      rw [Hpe.out, List.getElem?_eq_none (Nat.le_refl _)]
      rfl

set_option maxHeartbeats 400000 in
theorem rwrong_calls {w : World} {base g : Nat} {v : Value} {d : Dk} (h : RefAt w base g v d) (f : Int) :
    Calls Try.prog 55 #[.pointer (some ⟨g, 0, none⟩), .int .i64 f] w fun e w' => e = .returned (.int .i64 (d.wrong f)) ∧ w = w' := by
  have c3 := h.c3
  unfold Dk.wrong
  cases hd : d.dead with
  | true =>
    rw [hd] at c3
    go_enter Try.func55, Try.ntmps55
    go_wp2
    go_ret
    exact ⟨rfl, rfl⟩
  | false =>
    rw [hd] at c3
    by_cases h1 : f < 0
    · go_enter Try.func55, Try.ntmps55
      go_wp2
      go_ret
      exact ⟨by simp [h1], rfl⟩
    · by_cases h2 : 65536 ≤ f
      · go_enter Try.func55, Try.ntmps55
        go_wp2
        go_ret
        exact ⟨by simp [h2], rfl⟩
      · go_enter Try.func55, Try.ntmps55
        go_wp2
        go_ret
        exact ⟨by simp [h1, h2], rfl⟩

theorem sum_take (l : List Nat) (i : Nat) (x : Nat) (h : l[i]? = some x) : (l.take (i + 1)).sum = (l.take i).sum + x := by
  rw [List.take_add_one, h, List.sum_append]
  simp
theorem sum_take_le (l : List Nat) (i : Nat) : (l.take i).sum ≤ l.sum := by
  conv => rhs; rw [← List.take_append_drop i l]
  rw [List.sum_append]
  omega

set_option maxHeartbeats 1000000 in
theorem rsize_calls {w : World} {base g : Nat} {v : Value} {d : Dk} (h : RefAt w base g v d) (hb : bytes d.files ≤ 1000000000) :
    Calls Try.prog 35 #[.pointer (some ⟨g, 0, none⟩)] w fun e w' => e = .returned (.int .i64 (bytes d.files)) ∧ w = w' := by
  obtain ⟨A, c, rfl⟩ := h.slice
  have hfew := h.few
  go_enter Try.func35, Try.ntmps35
  go_wp2
  go_loopg [3, 4] d.files.length (fun kq v3 v4 w' => ∃ i : Nat, kq + i = d.files.length ∧ v4 = .int .i64 i ∧ v3 = .int .i64 (bytes (d.files.take i)) ∧ w = w')
  case atStart => exact ⟨0, by omega, rfl, rfl, rfl⟩
  case round =>
    obtain ⟨i, hi, rfl, rfl, rfl⟩ := hrel
    have hc0 := h.c0
    rcases Nat.lt_or_ge i d.files.length with hlt | hge
    · obtain ⟨x, hx⟩ : ∃ x, d.files[i]? = some x := ⟨_, List.getElem?_eq_getElem hlt⟩
      obtain ⟨ad, rfl, _, _, _, k1, _⟩ := h.file hx
      have hl1 : decide ((i : Int) < (d.files.length : Int)) = true := decide_eq_true (by omega)
      have hl2 : (i : Int) < (d.files.length : Int) := by omega
      have hst : bytes (d.files.take (i + 1)) = bytes (d.files.take i) + x.s.size := by
        unfold bytes
        rw [List.map_take, List.map_take]
        exact sum_take _ i _ (by rw [List.getElem?_map, hx]; rfl)
      have hle : bytes (d.files.take (i + 1)) ≤ bytes d.files := by
        unfold bytes
        rw [List.map_take]
        exact sum_take_le _ _
      go_wp2
      go_roundg (d.files.length - (i + 1))
      case measure => omega
      case rel => exact ⟨i + 1, by omega, by go_num, by rw [hst]; go_num, rfl⟩
    · have hl1 : decide ((i : Int) < (d.files.length : Int)) = false := decide_eq_false (by omega)
      have hpe : bytes (d.files.take i) = bytes d.files := by rw [List.take_of_length_le hge]
      rw [hpe]
      go_wp2
      go_ret
      exact ⟨rfl, rfl⟩

/-! what a sorted row says -/
theorem isAt_none {l : List Fl} {f : Int} (hs : l.Pairwise (fun a b => a.k < b.k)) (h : isAt l f = false) : look l f = none := by
  induction l with
  | nil => rfl
  | cons x xs ih =>
    rw [List.pairwise_cons] at hs
    by_cases hf : f ≤ x.k
    · have hp : plc (x :: xs) f = 0 := by unfold plc; rw [if_pos hf]
      unfold isAt at h
      rw [hp] at h
      simp at h
      unfold look
      rw [List.find?_eq_none]
      intro y hy
      rcases List.mem_cons.1 hy with rfl | hy
      · simpa using h
      · have := hs.1 y hy
        simp
        omega
    · have hp : plc (x :: xs) f = plc xs f + 1 := by show (if f ≤ x.k then 0 else _) = _; rw [if_neg hf]
      unfold isAt at h
      rw [hp] at h
      have := ih hs.2 (by unfold isAt; simpa using h)
      unfold look at this ⊢
      rw [List.find?_cons_of_neg (by simp; omega)]
      exact this
theorem isAt_some {l : List Fl} {f : Int} (h : isAt l f = true) : ∃ x, l[plc l f]? = some x ∧ x.k = f ∧ look l f = some x := by
  induction l with
  | nil => simp [isAt] at h
  | cons x xs ih =>
    by_cases hf : f ≤ x.k
    · have hp : plc (x :: xs) f = 0 := by unfold plc; rw [if_pos hf]
      unfold isAt at h
      rw [hp] at h ⊢
      simp at h
      refine ⟨x, rfl, h, ?_⟩
      unfold look
      rw [List.find?_cons_of_pos (by simpa using h)]
    · have hp : plc (x :: xs) f = plc xs f + 1 := by show (if f ≤ x.k then 0 else _) = _; rw [if_neg hf]
      unfold isAt at h
      rw [hp] at h ⊢
      obtain ⟨y, h1, h2, h3⟩ := ih (by unfold isAt; simpa using h)
      refine ⟨y, by simpa using h1, h2, ?_⟩
      unfold look at h3 ⊢
      rw [List.find?_cons_of_neg (by simp; omega)]
      exact h3
theorem plc_le (l : List Fl) (f : Int) : plc l f ≤ l.length := by
  induction l with
  | nil => exact Nat.le_refl _
  | cons x xs ih => unfold plc; split <;> simp <;> omega

theorem rdead_calls {w : World} {base g : Nat} {v : Value} {d : Dk} (h : RefAt w base g v d) :
    Calls Try.prog 36 #[.pointer (some ⟨g, 0, none⟩)] w fun e w' => e = .returned (.bool d.dead) ∧ w = w' := by
  have c3 := h.c3
  go_enter Try.func36, Try.ntmps36
  go_wp2
  go_ret
  exact ⟨rfl, rfl⟩

theorem rsteps_calls {w : World} {base g : Nat} {v : Value} {d : Dk} (h : RefAt w base g v d) :
    Calls Try.prog 38 #[.pointer (some ⟨g, 0, none⟩)] w fun e w' => e = .returned (.int .i64 d.steps) ∧ w = w' := by
  have c4 := h.c4
  go_enter Try.func38, Try.ntmps38
  go_wp2
  go_ret
  exact ⟨rfl, rfl⟩

theorem own_set {w : World} {base : Nat} {e : TypeId} {size n : Nat} {v : Value} {xs : List Value} (h : w.ownsRow base e size v n xs) {g j t : Nat} {cs : Array Value} {fr : Nat × Nat} (hg : w.heap[g]? = some (.cells cs t fr)) (ht : e ≠ t) (u : Value) : (w.setCell ⟨g, j, none⟩ u).ownsRow base e size v n xs :=
  own_move h fun b hb => Below.heap_setCell _ _ _ _ (by
    obtain ⟨_, cs2, hb2⟩ := own_block h b hb
    rintro rfl
    rw [hg] at hb2
    injection hb2 with hb2
    injection hb2 with _ h2
    exact ht h2.symm)

/-- A cell of the disk's own is written. -/
theorem RefAt.set2 {w : World} {base g : Nat} {v : Value} {d : Dk} (h : RefAt w base g v d) (a : Int) : RefAt (w.setCell ⟨g, 2, none⟩ (.int .i64 a)) base g v { d with armed := a } :=
  ⟨by simpa using set_blk h.blk 2 (.int .i64 a), own_set h.row h.blk (by decide) _, h.ge, h.srt, h.keys⟩
theorem RefAt.set3 {w : World} {base g : Nat} {v : Value} {d : Dk} (h : RefAt w base g v d) (a : Bool) : RefAt (w.setCell ⟨g, 3, none⟩ (.bool a)) base g v { d with dead := a } :=
  ⟨by simpa using set_blk h.blk 3 (.bool a), own_set h.row h.blk (by decide) _, h.ge, h.srt, h.keys⟩
theorem RefAt.set4 {w : World} {base g : Nat} {v : Value} {d : Dk} (h : RefAt w base g v d) (a : Int) : RefAt (w.setCell ⟨g, 4, none⟩ (.int .i64 a)) base g v { d with steps := a } :=
  ⟨by simpa using set_blk h.blk 4 (.int .i64 a), own_set h.row h.blk (by decide) _, h.ge, h.srt, h.keys⟩
theorem RefAt.inS {w : World} {base g : Nat} {v : Value} {d : Dk} (h : RefAt w base g v d) : RefS w base g := ⟨h.ge, _, _, _, h.blk, .inl rfl⟩

set_option maxHeartbeats 400000 in
theorem rarm_calls {w : World} {base g : Nat} {v : Value} {d : Dk} (h : RefAt w base g v d) (n : Int) :
    Calls Try.prog 28 #[.pointer (some ⟨g, 0, none⟩), .int .i64 n] w fun e w' => e = .returned (.tuple #[]) ∧ RefAt w' base g v (d.arm n) ∧ Fr (RefS w base) w w' := by
  have f2 := free_blk h.blk 2
  have c2 := h.c2
  have hfr : ∀ a, Fr (RefS w base) w (w.setCell ⟨g, 2, none⟩ a) := fun a => (Fr.refl _ w).setCell (fun _ => h.inS) _
  by_cases hn : 0 ≤ n
  · have e1 : d.arm n = { d with armed := n } := by unfold Dk.arm; rw [if_pos hn]
    have E1 := Lib.hid e1; clear e1
    go_enter Try.func28, Try.ntmps28
    go_wp2
    go_end0
    exact ⟨rfl, by rw [E1.out]; exact h.set2 _, hfr _⟩
  · have e1 : d.arm n = { d with armed := 0 } := by unfold Dk.arm; rw [if_neg hn]
    have E1 := Lib.hid e1; clear e1
    go_enter Try.func28, Try.ntmps28
    go_wp2
    go_end0
    exact ⟨rfl, by rw [E1.out]; exact h.set2 _, hfr _⟩

set_option maxHeartbeats 400000 in
theorem rnew_calls (w : World) (n : Int) (h1 : 1 ≤ n) (h2 : n ≤ 16777216) (base : Nat) (hb : base ≤ w.heap.size) :
    Calls Try.prog 20 #[.int .i64 n] w fun e w' => e = .returned (.tuple #[.pointer (some ⟨w.heap.size, 0, none⟩), .int .i64 0]) ∧ RefAt w' base w.heap.size (.slice none 0 0) (Dk.new n) ∧ Fr (fun _ => False) w w' := by
  go_enter Try.func20, Try.ntmps20
  go_wp2
  go_ret2
  refine ⟨rfl, ⟨?_, own_nil _ _ _ _, hb, List.Pairwise.nil, by simp [Dk.new]⟩, (Fr.refl _ w).alloc _⟩
  have := heap_alloc_new w (.cells #[.slice none 0 0, .int .i64 n, .int .i64 0, .bool false, .int .i64 0] 82)
  simpa [Dk.new] using this

theorem rnew_wrong (w : World) (n : Int) (h : n < 1 ∨ 16777216 < n) :
    Calls Try.prog 20 #[.int .i64 n] w fun e w' => e = .returned (.tuple #[.pointer none, .int .i64 1]) ∧ w = w' := by
  rcases h with h | h
  · go_enter Try.func20, Try.ntmps20
    go_wp2
    go_ret2
    exact ⟨rfl, rfl⟩
  · have h' : ¬ n < 1 := by omega
    go_enter Try.func20, Try.ntmps20
    go_wp2
    go_ret2
    exact ⟨rfl, rfl⟩

set_option maxHeartbeats 800000 in
theorem rread_calls {w : World} {base g : Nat} {v : Value} {d : Dk} (h : RefAt w base g v d) (f : Int) :
    Calls Try.prog 30 #[.pointer (some ⟨g, 0, none⟩), .int .i64 f] w fun e w' => e = .returned (.tuple #[.string (d.readS f), .int .i64 (d.wrong f)]) ∧ ∃ n, w' = w.drewN n := by
  by_cases hw : d.wrong f = 0
  · have hb : (d.wrong f != 0) = false := by simpa using hw
    have e1 : d.readS f = sAt d.files f := by unfold Dk.readS; rw [if_neg (by simp [hw])]
    have E1 := Lib.hid e1; clear e1
    have Hw := Lib.hid hw; clear hw
    cases hi : isAt d.files f with
    | false =>
      have e2 : sAt d.files f = ⟨#[]⟩ := by unfold sAt; rw [isAt_none h.srt hi]; rfl
      have E2 := Lib.hid e2; clear e2
      have hv : atV d.files f = .tuple #[.int .i64 (plc d.files f), .bool false] := by unfold atV; rw [hi]
      have Hi := Lib.hid hi; clear hi
      go_enter Try.func30, Try.ntmps30
      go_wp2_with (first | (go_at_call 55; refine (rwrong_calls h f).mono ?_; rintro e w' ⟨rfl, rfl⟩) | (go_at_call 56; refine (at_calls h f).mono ?_; rintro e w' ⟨rfl, nd, rfl⟩; rw [hv]))
      go_ret2
      exact ⟨by rw [E1.out, Hw.out, E2.out]; rfl, _, rfl⟩
    | true =>
      obtain ⟨x, hx1, hx2, hx3⟩ := isAt_some hi
      have e2 : sAt d.files f = x.s := by unfold sAt; rw [hx3]; rfl
      have E2 := Lib.hid e2; clear e2
      have hv : atV d.files f = .tuple #[.int .i64 (plc d.files f), .bool true] := by unfold atV; rw [hi]
      obtain ⟨A, c, rfl⟩ := h.slice
      obtain ⟨ad, rfl, _, _, _, k1, _⟩ := h.file hx1
      have c0 := h.c0
      have hpl : (plc d.files f : Int) < (d.files.length : Int) := by have := (List.getElem?_eq_some_iff.1 hx1).1; omega
      have Hi := Lib.hid hi; clear hi hx1 hx2 hx3
      go_enter Try.func30, Try.ntmps30
      go_wp2_with (first | (go_at_call 55; refine (rwrong_calls h f).mono ?_; rintro e w' ⟨rfl, rfl⟩) | (go_at_call 56; refine (at_calls h f).mono ?_; rintro e w' ⟨rfl, nd, rfl⟩; rw [hv]))
      go_ret2
      exact ⟨by rw [E1.out, Hw.out, E2.out]; rfl, _, rfl⟩
  · have hb : (d.wrong f != 0) = true := by simpa using hw
    have e1 : d.readS f = ⟨#[]⟩ := by unfold Dk.readS; rw [if_pos hw]
    have E1 := Lib.hid e1; clear e1
    go_enter Try.func30, Try.ntmps30
    go_wp2_with (first | (go_at_call 55; refine (rwrong_calls h f).mono ?_; rintro e w' ⟨rfl, rfl⟩))
    go_ret2
    exact ⟨by rw [E1.out]; rfl, 0, rfl⟩

set_option maxHeartbeats 800000 in
theorem rstep_calls {w : World} {base g : Nat} {v : Value} {d : Dk} (h : RefAt w base g v d) (ha : 0 ≤ d.armed) (ha2 : d.armed ≤ 9223372036854775807) :
    Calls Try.prog 57 #[.pointer (some ⟨g, 0, none⟩)] w fun e w' => e = .returned (.bool (!d.step.dead)) ∧ RefAt w' base g v d.step ∧ Fr (RefS w base) w w' := by
  have c2 := h.c2
  have c3 := h.c3
  have c4 := h.c4
  have f2 := free_blk h.blk 2
  have f3 := free_blk h.blk 3
  have f4 := free_blk h.blk 4
  have hfr : ∀ a b c, Fr (RefS w base) w (((w.setCell ⟨g, 4, none⟩ a).setCell ⟨g, 2, none⟩ b).setCell ⟨g, 3, none⟩ c) := fun a b c =>
    (((Fr.refl _ w).setCell (fun _ => h.inS) _).setCell (fun _ => h.inS) _).setCell (fun _ => h.inS) _
  have hat : ∀ a b c, RefAt (((w.setCell ⟨g, 4, none⟩ (.int .i64 a)).setCell ⟨g, 2, none⟩ (.int .i64 b)).setCell ⟨g, 3, none⟩ (.bool c)) base g v { d with steps := a, armed := b, dead := c } := fun a b c => ((h.set4 a).set2 b).set3 c
  have hfr1 : ∀ a, Fr (RefS w base) w (w.setCell ⟨g, 4, none⟩ a) := fun a => (Fr.refl _ w).setCell (fun _ => h.inS) _
  have hat1 : ∀ a, RefAt (w.setCell ⟨g, 4, none⟩ (.int .i64 a)) base g v { d with steps := a } := fun a => h.set4 a
  by_cases h1 : 0 < d.armed
  · by_cases h2 : d.armed = 1
    · have hx : ((d.armed - 1) == 0) = true := by rw [h2]; rfl
      have Hs := Lib.hid (show d.step = { d with steps := wrap64 (d.steps + 1), armed := d.armed - 1, dead := true } by unfold Dk.step; rw [if_pos h1, if_pos h1, hx])
      have Hx := Lib.hid h2; clear h2
      go_enter Try.func57, Try.ntmps57
      go_wp2
      go_ret
      exact ⟨by rw [Hs.out]; rfl, by rw [Hs.out]; exact hat _ _ _, hfr _ _ _⟩
    · have hx : ((d.armed - 1) == 0) = false := by rw [beq_eq_false_iff_ne]; omega
      have Hs := Lib.hid (show d.step = { d with steps := wrap64 (d.steps + 1), armed := d.armed - 1, dead := false } by unfold Dk.step; rw [if_pos h1, if_pos h1, hx])
      go_enter Try.func57, Try.ntmps57
      go_wp2
      go_ret
      exact ⟨by rw [Hs.out]; rfl, by rw [Hs.out]; exact hat _ _ _, hfr _ _ _⟩
  · have h0 : (if 0 < d.armed then d.armed - 1 else d.armed) = d.armed := if_neg h1
    have h0' : (if 0 < d.armed then d.armed - 1 == 0 else d.dead) = d.dead := if_neg h1
    have Hs := Lib.hid (show d.step = { d with steps := wrap64 (d.steps + 1) } by unfold Dk.step; rw [h0, h0'])
    clear h0 h0'
    cases hd : d.dead with
    | true =>
      rw [hd] at c3
      have Hx := Lib.hid hd
      clear hd
      go_enter Try.func57, Try.ntmps57
      go_wp2
      go_ret
      exact ⟨by rw [Hs.out]; show _ = Ending.returned (.bool (!d.dead)); rw [Hx.out]; rfl, by rw [Hs.out]; exact hat1 _, hfr1 _⟩
    | false =>
      rw [hd] at c3
      have Hx := Lib.hid hd
      clear hd
      go_enter Try.func57, Try.ntmps57
      go_wp2
      go_ret
      exact ⟨by rw [Hs.out]; show _ = Ending.returned (.bool (!d.dead)); rw [Hx.out]; rfl, by rw [Hs.out]; exact hat1 _, hfr1 _⟩

end Go.Proofs.Ytljfagagopaidaa
