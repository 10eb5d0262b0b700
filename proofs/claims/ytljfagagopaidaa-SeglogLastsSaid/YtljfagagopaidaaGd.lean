/- What holds of a disk whatever is asked of it. -/
import Derived.Test.YtljfagagopaidaaPl
namespace Go.Proofs.Ytljfagagopaidaa
open Go.RowKit
set_option linter.unusedSimpArgs false
set_option linter.unusedVariables false

structure Good (d : Dk) : Prop where
  lim0 : 0 ≤ d.limit
  lim : d.limit ≤ 16777216
  arm0 : 0 ≤ d.armed
  arm1 : d.armed ≤ 9223372036854775807
  size : (bytes d.files : Int) ≤ d.limit
  sound : Sound d.files
  apart : Apart d.files
  keys : ∀ x ∈ d.files, 0 ≤ x.k ∧ x.k < 65536

theorem Good.ok {d : Dk} (h : Good d) (hm : d.files.length ≤ 65536) : d.Ok := ⟨h.lim, h.arm0, h.arm1, .inl h.size, hm, h.keys⟩

theorem bytes_cons (x : Fl) (l : List Fl) : bytes (x :: l) = x.s.size + bytes l := by simp [bytes]
theorem bytes_append (a b : List Fl) : bytes (a ++ b) = bytes a + bytes b := by simp [bytes]

theorem map_other {l : List Fl} {x : Fl} (h : ∀ y ∈ l, y.k ≠ x.k) : l.map (fun y => if y.k == x.k then x else y) = l := by
  conv => rhs; rw [← List.map_id l]
  refine List.map_congr_left fun y hy => ?_
  rw [if_neg (by simpa using h y hy)]
  rfl

theorem bytes_map {x z : Fl} : ∀ {l : List Fl}, Apart l → look l x.k = some z → bytes (l.map (fun y => if y.k == x.k then x else y)) + z.s.size = bytes l + x.s.size
  | [], _, h => by simp [look] at h
  | y :: ys, ha, h => by
    unfold Apart at ha
    rw [List.pairwise_cons] at ha
    unfold look at h
    by_cases hk : y.k = x.k
    · rw [List.find?_cons_of_pos (by simpa using hk)] at h
      injection h with h
      subst h
      rw [List.map_cons, if_pos (by simpa using hk), map_other (fun b hb => by have := ha.1 b hb; omega), bytes_cons, bytes_cons]
      omega
    · rw [List.find?_cons_of_neg (by simpa using hk)] at h
      have := bytes_map (l := ys) ha.2 h
      rw [List.map_cons, if_neg (by simpa using hk), bytes_cons, bytes_cons]
      omega

theorem bytes_lay {l : List Fl} (ha : Apart l) (x : Fl) : bytes (lay l x) + (sAt l x.k).size = bytes l + x.s.size := by
  unfold lay
  cases hl : look l x.k with
  | none =>
    have : l.any (fun z => z.k == x.k) = false := by rw [any_iff, hl]; rfl
    rw [this, if_neg (by simp), (sAt_none hl).1, bytes_append]
    show bytes l + bytes [x] + 0 = _
    simp [bytes]
  | some z =>
    have : l.any (fun z => z.k == x.k) = true := by rw [any_iff, hl]; rfl
    rw [if_pos this, (sAt_of hl).1]
    exact bytes_map ha hl

theorem apart_lay {l : List Fl} (ha : Apart l) (x : Fl) : Apart (lay l x) := by
  unfold lay
  split
  · unfold Apart at ha ⊢
    rw [List.pairwise_map]
    refine ha.imp fun {a b} hab => ?_
    by_cases h1 : a.k = x.k
    · by_cases h2 : b.k = x.k
      · omega
      · rw [if_pos (by simpa using h1), if_neg (by simpa using h2)]; omega
    · by_cases h2 : b.k = x.k
      · rw [if_neg (by simpa using h1), if_pos (by simpa using h2)]; omega
      · rw [if_neg (by simpa using h1), if_neg (by simpa using h2)]; exact hab
  · next hno =>
    unfold Apart at ha ⊢
    rw [List.pairwise_append]
    refine ⟨ha, by simp, fun a h b hb => ?_⟩
    simp at hb
    subst hb
    intro e
    exact hno (List.any_eq_true.2 ⟨a, h, by simpa using e⟩)

theorem Good.step {d : Dk} (h : Good d) : Good d.step := by
  refine ⟨h.lim0, h.lim, ?_, ?_, h.size, h.sound, h.apart, h.keys⟩
  · show 0 ≤ (if 0 < d.armed then d.armed - 1 else d.armed)
    have := h.arm0
    split <;> omega
  · show (if 0 < d.armed then d.armed - 1 else d.armed) ≤ _
    have := h.arm1
    split <;> omega

theorem Good.put {d : Dk} (h : Good d) {x : Fl} (hb : (bytes d.files : Int) + x.s.size ≤ d.limit + (sAt d.files x.k).size) (hn0 : 0 ≤ x.n) (hn1 : x.n ≤ x.s.size) (hk : 0 ≤ x.k ∧ x.k < 65536) : Good (d.put x) := by
  have hbl := bytes_lay h.apart x
  have hsz : (bytes (lay d.files x) : Int) ≤ d.limit := by omega
  have hxs : x.s.size ≤ bytes (lay d.files x) := by
    have : x ∈ lay d.files x := by
      unfold lay
      split
      · next ha =>
        obtain ⟨y, hy, e⟩ := List.any_eq_true.1 ha
        exact List.mem_map.2 ⟨y, hy, by rw [if_pos e]⟩
      · simp
    exact size_le_bytes this
  have hl := h.lim
  refine ⟨h.lim0, h.lim, h.arm0, h.arm1, hsz, ?_, apart_lay h.apart x, ?_⟩
  · intro y hy
    rcases mem_lay hy with hy | rfl
    · exact h.sound y hy
    · exact ⟨hn0, hn1, by omega⟩
  · intro y hy
    rcases mem_lay hy with hy | rfl
    · exact h.keys y hy
    · exact hk

theorem bytes_sub {l l' : List Fl} (h : l.Sublist l') : bytes l ≤ bytes l' := by
  induction h with
  | slnil => exact Nat.le_refl _
  | cons x _ ih => rw [bytes_cons]; omega
  | cons_cons x _ ih => rw [bytes_cons, bytes_cons]; omega

theorem Good.del {d : Dk} (h : Good d) (f : Int) : Good (d.del f) := by
  have hs : (drop d.files f).Sublist d.files := List.filter_sublist
  have hb : bytes (drop d.files f) ≤ bytes d.files := bytes_sub hs
  refine ⟨h.lim0, h.lim, h.arm0, h.arm1, ?_, fun x hx => h.sound x (hs.subset hx), h.apart.sublist hs, fun x hx => h.keys x (hs.subset hx)⟩
  show (bytes (drop d.files f) : Int) ≤ d.limit
  have := h.size
  omega

theorem wrong_key {d : Dk} {f : Int} (h : d.wrong f = 0) : 0 ≤ f ∧ f < 65536 := by
  unfold Dk.wrong at h
  split at h
  · cases h
  · split at h
    · cases h
    · omega

theorem Good.nAt {d : Dk} (h : Good d) (f : Int) : 0 ≤ nAt d.files f ∧ nAt d.files f ≤ (sAt d.files f).size := ⟨(sound_at h.sound f).1, (sound_at h.sound f).2.1⟩

theorem Good.append {d : Dk} (h : Good d) (f : Int) (s : ByteArray) : Good (d.append f s) := by
  unfold Dk.append
  split
  · exact h
  · next hw =>
    split
    · exact h
    · next hf =>
      have hk := wrong_key (d := d) (f := f) (by simpa using hw)
      have hn := h.nAt f
      refine (h.put ?_ hn.1 ?_ hk).step
      · show (bytes d.files : Int) + ((Ytljfagagopaidaa.sAt d.files f ++ s).size : Nat) ≤ d.limit + ((Ytljfagagopaidaa.sAt d.files f).size : Nat)
        rw [ByteArray.size_append]
        omega
      · show Ytljfagagopaidaa.nAt d.files f ≤ ((Ytljfagagopaidaa.sAt d.files f ++ s).size : Nat)
        rw [ByteArray.size_append]
        omega

theorem Good.changed {d : Dk} (h : Good d) (f : Int) {D : Dk} (hD : Good D) : Good (d.changed f D) := by
  unfold Dk.changed
  split
  · exact h.step
  · split
    · exact hD
    · exact h.step

theorem Good.sync {d : Dk} (h : Good d) (f : Int) : Good (d.sync f) := by
  unfold Dk.sync
  split
  · exact h
  · next hw =>
    have hk := wrong_key (d := d) (f := f) (by simpa using hw)
    refine h.changed f (h.step.put ?_ ?_ ?_ hk)
    · show (bytes d.files : Int) + (Ytljfagagopaidaa.sAt d.files f).size ≤ d.limit + (Ytljfagagopaidaa.sAt d.files f).size
      have := h.size
      omega
    · show (0 : Int) ≤ ((Ytljfagagopaidaa.sAt d.files f).size : Int)
      omega
    · exact Int.le_refl _

theorem Good.dropped {d : Dk} (h : Good d) (f : Int) : Good (d.dropped f) := by
  unfold Dk.dropped
  split
  · exact h
  · exact h.changed f (h.step.del f)

theorem Good.cut {d : Dk} (h : Good d) (f k : Int) : Good (d.cut f k) := by
  unfold Dk.cut
  split
  · exact h
  · next hw =>
    split
    · exact h
    · next hk0 =>
      split
      · exact h
      · next hk1 =>
        have hk := wrong_key (d := d) (f := f) (by simpa using hw)
        have hcz : ((cutS (Ytljfagagopaidaa.sAt d.files f) k).size : Int) = k := size_cutS (by omega) (by omega)
        refine h.changed f (h.step.put ?_ ?_ ?_ hk)
        · show (bytes d.files : Int) + (cutS (Ytljfagagopaidaa.sAt d.files f) k).size ≤ d.limit + (Ytljfagagopaidaa.sAt d.files f).size
          have := h.size
          omega
        · show (0 : Int) ≤ k
          omega
        · show k ≤ ((cutS (Ytljfagagopaidaa.sAt d.files f) k).size : Int)
          omega

theorem Good.arm {d : Dk} (h : Good d) {n : Int} (hn : n ≤ 9223372036854775807) : Good (d.arm n) := by
  refine ⟨h.lim0, h.lim, ?_, ?_, h.size, h.sound, h.apart, h.keys⟩
  · show 0 ≤ (if 0 ≤ n then n else 0)
    split <;> omega
  · show (if 0 ≤ n then n else 0) ≤ _
    split <;> omega

theorem rcl_good : ∀ (l : List Fl) (ks : List Int), Sound l → (∀ k ∈ ks, -9223372036854775808 ≤ k) → bytes (rcl ks l) ≤ bytes l ∧ Sound (rcl ks l) ∧ (rcl ks l).map Fl.k = l.map Fl.k
  | [], ks, _, _ => by
    have : rcl ks [] = [] := by cases ks <;> rfl
    rw [this]
    exact ⟨Nat.le_refl _, (fun x hx => absurd hx (by simp) : Sound []), rfl⟩
  | x :: xs, ks, h, hk => by
    have hx := h x (by simp)
    have hxs : Sound xs := fun y hy => h y (by simp [hy])
    by_cases hz : (x.s.size : Int) - x.n = 0
    · rw [rcl_skip hz]
      obtain ⟨h1, h2, h3⟩ := rcl_good xs ks hxs hk
      refine ⟨by rw [bytes_cons, bytes_cons]; omega, ?_, by rw [List.map_cons, List.map_cons, h3]⟩
      intro y hy
      rcases List.mem_cons.1 hy with rfl | hy
      · exact hx
      · exact h2 y hy
    · rw [rcl_cut hz]
      obtain ⟨h1, h2, h3⟩ := rcl_good xs ks.tail hxs (fun k hk' => hk k (List.mem_of_mem_tail hk'))
      have hk0 : 0 ≤ keepOf (ks.headD 0) := by unfold keepOf; split <;> omega
      have hD : 0 < (x.s.size : Int) - x.n + 1 := by omega
      have ht0 : 0 ≤ (keepOf (ks.headD 0)).tmod ((x.s.size : Int) - x.n + 1) := Int.tmod_nonneg _ hk0
      have ht1 := Int.tmod_lt_of_pos (keepOf (ks.headD 0)) hD
      have hq0 : 0 ≤ cutQ x (ks.headD 0) := by unfold cutQ; omega
      have hq1 : cutQ x (ks.headD 0) ≤ x.s.size := by unfold cutQ; omega
      have hcz := size_cutS hq0 hq1
      refine ⟨by rw [bytes_cons, bytes_cons]; show (cutS x.s _).size + _ ≤ _; omega, ?_, by rw [List.map_cons, List.map_cons, h3]⟩
      intro y hy
      rcases List.mem_cons.1 hy with rfl | hy
      · exact ⟨hq0, by show cutQ x (ks.headD 0) ≤ ((cutS x.s _).size : Int); omega, by show (cutS x.s _).size ≤ _; have := hx.2.2; omega⟩
      · exact h2 y hy

theorem sound_perm {l l' : List Fl} (h : l.Perm l') (hs : Sound l) : Sound l' := fun x hx => hs x (h.mem_iff.2 hx)

/-- What is good of one is good of one alike. -/
theorem Good.alike {d r : Dk} (h : Good d) (a : Alike d r) : Good r := by
  refine ⟨by rw [a.limit]; exact h.lim0, by rw [a.limit]; exact h.lim, by rw [a.armed]; exact h.arm0, by rw [a.armed]; exact h.arm1, by rw [a.limit, a.bytes]; exact h.size, sound_perm a.files.symm h.sound, (a.files.symm.pairwise_iff (fun h => h.symm)).1 h.apart, fun x hx => h.keys x (a.files.mem_iff.1 hx)⟩
theorem Alike.symm {d r : Dk} (a : Alike d r) : Alike r d := ⟨a.files.symm, a.limit.symm, a.armed.symm, a.dead.symm, a.steps.symm⟩

theorem Good.rcrash {r : Dk} (h : Good r) (ks : List Int) (hk : ∀ k ∈ ks, -9223372036854775808 ≤ k) : Good { r with files := rcl ks r.files, dead := false, armed := 0 } := by
  obtain ⟨h1, h2, h3⟩ := rcl_good r.files ks h.sound hk
  refine ⟨h.lim0, h.lim, Int.le_refl _, show (0 : Int) ≤ 9223372036854775807 by decide, ?_, h2, ?_, ?_⟩
  · show (bytes (rcl ks r.files) : Int) ≤ r.limit
    have := h.size
    omega
  · have ha : ((rcl ks r.files).map Fl.k).Pairwise (· ≠ ·) := by rw [h3, List.pairwise_map]; exact h.apart
    rw [List.pairwise_map] at ha
    exact ha
  · intro x hx
    have : x.k ∈ (rcl ks r.files).map Fl.k := List.mem_map_of_mem hx
    rw [h3] at this
    obtain ⟨y, hy, e⟩ := List.mem_map.1 this
    rw [← e]
    exact h.keys y hy

end Go.Proofs.Ytljfagagopaidaa
