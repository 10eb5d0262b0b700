/- The chapter's examples of the disk, walked. -/
import Derived.Test.YtljfagagopaidaaCr
import Derived.Test.YtljfagagopaidaaLf1
namespace Go.Proofs.Ytljfagagopaidaa
open Go.RowKit Go.Proofs.YtljfagagopaidaaW.PrintWords
set_option linter.unusedSimpArgs false
set_option linter.unusedVariables false
set_option maxRecDepth 100000

theorem C_lit (w : World) (xs : List Int) (t : TypeId) (h : xs.length ≤ 9223372036854775807) : (Kd.int .i64).C (w.alloc (.cells (xs.map (Value.int .i64)).toArray t)) (some ⟨w.heap.size, 0, none⟩) xs.length xs := by
  refine ⟨rfl, h, fun hn => ⟨_, rfl, fun j p hj => ⟨[.int .i64 p], rfl, rfl, fun i u hu => ?_⟩⟩⟩
  match i, hu with
  | 0, hu =>
    have hu' : Value.int .i64 p = u := by simpa using hu
    subst hu'
    show (w.alloc _).cell? ((⟨w.heap.size, 0, none⟩ : Addr).add (j * 1 + 0)) = _
    rw [Nat.mul_one, Nat.add_zero]
    have : (⟨w.heap.size, 0, none⟩ : Addr).add j = ⟨w.heap.size, j, none⟩ := by unfold Addr.add; split <;> simp_all
    rw [this, cell_blk (heap_alloc_new w _) j]
    simp [hj]
  | i + 1, hu => simp at hu

theorem wrap_nat {i n : Nat} (h : i < n) (hn : n ≤ 9223372036854775807) : wrap64 ((i : Int) + 1) = ((i + 1 : Nat) : Int) := by
  unfold wrap64
  omega

/-- The printed function of two lists of numbers: are they the same? -/
theorem ints_loop (l0 l1 : List Int) (h0 : l0.length ≤ 9223372036854775807) (hl : l0.length = l1.length) : ∀ (d i k : Nat), i + d = l0.length → d < k → Lf.vitrinelaw16_ints.l0 k l0 l1 i = some (decide (l0.drop i = l1.drop i))
  | 0, i, k, hi, hk => by
    obtain ⟨k, rfl⟩ : ∃ m, k = m + 1 := ⟨k - 1, by omega⟩
    simp only [Lf.vitrinelaw16_ints.l0]
    rw [if_neg (by omega), List.drop_of_length_le (by omega), List.drop_of_length_le (by omega)]
    simp
  | d + 1, i, k, hi, hk => by
    obtain ⟨k, rfl⟩ : ∃ m, k = m + 1 := ⟨k - 1, by omega⟩
    have hi0 : i < l0.length := by omega
    have hi1 : i < l1.length := by omega
    have e0 : rd l0 i = l0[i] := by simp [rd, hi0]
    have e1 : rd l1 i = l1[i] := by simp [rd, hi1]
    simp only [Lf.vitrinelaw16_ints.l0]
    rw [if_pos (by omega), if_pos (by omega), if_pos (by omega), e0, e1, List.drop_eq_getElem_cons hi0, List.drop_eq_getElem_cons hi1]
    by_cases h : l0[i] = l1[i]
    · rw [if_pos h, wrap_nat hi0 h0, ints_loop l0 l1 h0 hl d (i + 1) k (by omega) (by omega)]
      exact congrArg some (decide_eq_decide.2 (by rw [List.cons.injEq]; exact ⟨fun e => ⟨h, e⟩, And.right⟩))
    · rw [if_neg h]
      exact congrArg some (decide_eq_false (by rw [List.cons.injEq]; exact fun e => h e.1)).symm

theorem ints_f (l0 l1 : List Int) (h0 : l0.length ≤ 9223372036854775807) : Lf.vitrinelaw16_ints.f (l0.length + 1) l0 l1 = some (decide (l0 = l1)) := by
  unfold Lf.vitrinelaw16_ints.f
  by_cases hl : l0.length = l1.length
  · rw [if_pos (by omega)]
    have := ints_loop l0 l1 h0 hl l0.length 0 (l0.length + 1) (by omega) (by omega)
    simpa using this
  · rw [if_neg (by omega)]
    have : l0 ≠ l1 := fun e => hl (by rw [e])
    simp [this]

theorem Fr.of_drawn {w w' : World} (h : Drawn0 w w') (S : Nat → Prop) : Fr S w w' := by
  obtain ⟨n, rfl⟩ := h
  exact (Fr.refl S w).drewN n

/-- Two lists of numbers that are read: are they the same? -/
theorem ints_calls (A0 : Option Addr) (c0 : Nat) (l0 : List Int) (A1 : Option Addr) (c1 : Nat) (l1 : List Int) (w : World) (hr0 : (Kd.int .i64).C w A0 l0.length l0) (hc0 : l0.length ≤ c0) (hr1 : (Kd.int .i64).C w A1 l1.length l1) (hc1 : l1.length ≤ c1) :
    Calls Try.prog 31 #[.slice A0 l0.length c0, .slice A1 l1.length c1] w fun e w' => e = .returned (.bool (decide (l0 = l1))) ∧ Fr (fun _ => False) w w' :=
  (Lf.vitrinelaw16_ints.calls _ A0 c0 l0 A1 c1 l1 _ w hr0 hc0 hr1 hc1 (ints_f l0 l1 hr0.2.1)).mono fun _ _ ⟨he, hd⟩ => ⟨he, Fr.of_drawn hd _⟩

/-! ### the examples -/
def sAbc : ByteArray := ⟨#[97, 98, 99]⟩
def sDef : ByteArray := ⟨#[100, 101, 102]⟩
def sNum : ByteArray := ⟨#[49, 50, 51, 52, 53, 54]⟩
def sX : ByteArray := ⟨#[120]⟩
def sAbcde : ByteArray := ⟨#[97, 98, 99, 100, 101]⟩
def d0 : Dk := Dk.new 10
def d1 : Dk := ⟨[⟨0, sAbc, 0⟩], 10, 0, false, 1⟩
def d2 : Dk := ⟨[⟨0, sAbc, 3⟩], 10, 0, false, 2⟩
def d3 : Dk := ⟨[⟨0, sAbc ++ sDef, 3⟩], 10, 0, false, 3⟩
def d4 : Dk := ⟨[⟨0, sAbcde, 5⟩], 10, 0, false, 3⟩
def d5 : Dk := ⟨[⟨0, sAbcde, 5⟩], 10, 1, false, 3⟩
def d6 : Dk := ⟨[⟨0, sAbcde, 5⟩, ⟨1, sX, 0⟩], 10, 0, true, 4⟩
def d7 : Dk := ⟨[⟨0, sAbcde, 5⟩, ⟨1, sX, 1⟩], 10, 0, false, 4⟩
theorem a01 : d0.append 0 sAbc = d1 := by kernel_rfl
theorem e01 : d0.appendE 0 sAbc = 0 := by kernel_rfl
theorem a12 : d1.sync 0 = d2 := by kernel_rfl
theorem e12 : d1.changeE 0 = 0 := by kernel_rfl
theorem a23 : d2.append 0 sDef = d3 := by kernel_rfl
theorem e23 : d2.appendE 0 sDef = 0 := by kernel_rfl
theorem n3 : numbers d3.files = [0] := by simp [numbers, sortZ, d3]
theorem a34 : d3.crash [2] = d4 := by
  unfold Dk.crash
  rw [n3]
  kernel_rfl
theorem a44 : d4.append 0 sNum = d4 := by kernel_rfl
theorem e44 : d4.appendE 0 sNum = 51 := by kernel_rfl
theorem a45 : d4.arm 1 = d5 := by kernel_rfl
theorem a56 : d5.append 1 sX = d6 := by kernel_rfl
theorem e56 : d5.appendE 1 sX = 50 := by kernel_rfl
theorem n6 : numbers d6.files = [0, 1] := List.mergeSort_of_pairwise (by simp [d6])
theorem a67 : d6.crash [1] = d7 := by
  unfold Dk.crash
  rw [n6]
  kernel_rfl
theorem r4 : d4.readS 0 = sAbcde := by kernel_rfl
theorem wr4 : d4.wrong 0 = 0 := by kernel_rfl
theorem r7 : d7.readS 1 = sX := by kernel_rfl
theorem wr7 : d7.wrong 1 = 0 := by kernel_rfl

theorem ok0 : d0.Ok := ⟨by decide, by decide, by decide, .inr rfl, by decide, by simp [d0, Dk.new]⟩
theorem ok1 : d1.Ok := ⟨by decide, by decide, by decide, .inl (by decide), by decide, by simp [d1]⟩
theorem ok2 : d2.Ok := ⟨by decide, by decide, by decide, .inl (by decide), by decide, by simp [d2]⟩
theorem ok3 : d3.Ok := ⟨by decide, by decide, by decide, .inl (by decide), by decide, by simp [d3]⟩
theorem ok4 : d4.Ok := ⟨by decide, by decide, by decide, .inl (by decide), by decide, by simp [d4]⟩
theorem ok5 : d5.Ok := ⟨by decide, by decide, by decide, .inl (by decide), by decide, by simp [d5]⟩
theorem ok6 : d6.Ok := ⟨by decide, by decide, by decide, .inl (by decide), by decide, by simp [d6]⟩
theorem ok7 : d7.Ok := ⟨by decide, by decide, by decide, .inl (by decide), by decide, by simp [d7]⟩
theorem so3 : Sound d3.files := by intro x hx; simp [d3] at hx; subst hx; exact ⟨by decide, by decide, by decide⟩
theorem so6 : Sound d6.files := by
  intro x hx
  simp only [d6, List.mem_cons, List.not_mem_nil, or_false] at hx
  rcases hx with rfl | rfl
  · exact ⟨by decide, by decide, by decide⟩
  · exact ⟨by decide, by decide, by decide⟩

/-- What is true from the disk's making on. -/
structure Since (w W : World) (g m : Nat) (d : Dk) : Prop where
  disk : DiskAt W g m d
  new : w.heap.size ≤ g ∧ w.heap.size ≤ m
  fr : Fr (fun _ => False) w W

theorem Since.next {w W W' : World} {g m : Nat} {d d' : Dk} (h : Since w W g m d) (h' : DiskAt W' g m d') (k : Fr (Two g m) W W') : Since w W' g m d' :=
  ⟨h', h.new, h.fr.then_ k (fun i hi e => by have := h.new; rcases e with e | e <;> omega)⟩
theorem Since.keep {w W W' : World} {g m : Nat} {d : Dk} (h : Since w W g m d) (k : Fr (fun _ => False) W W') : Since w W' g m d := ⟨h.disk.fr k id id, h.new, h.fr.trans k⟩

set_option maxHeartbeats 1000000 in
theorem awake_calls (w : World) : Calls Try.prog 13 #[] w fun e w' => e = .returned (.bool true) ∧ Below w.heap.size w w' := by
  go_enter Try.func13, Try.ntmps13
  go_wp2_with fail
  refine (new_calls _ 10 (by decide) (by decide)).mono ?_
  rintro e w0 ⟨rfl, h0, k0, hz⟩
  obtain ⟨g, hg⟩ : ∃ g, g = w.heap.size + 1 := ⟨_, rfl⟩
  obtain ⟨m, hm⟩ : ∃ m, m = w.heap.size := ⟨_, rfl⟩
  rw [← hg] at h0 ⊢
  rw [← hm] at h0
  have s0 : Since w w0 g m d0 := ⟨h0, by omega, k0⟩
  clear hz hg hm h0 k0
  go_wp2_with fail
  refine (append_calls s0.disk ok0 0 sAbc (by decide)).mono ?_
  rintro e w1 ⟨he, h1, k1⟩
  rw [e01] at he
  rw [a01] at h1
  subst he
  have s1 := s0.next h1 k1
  clear s0 h1 k1
  go_wp2_with fail
  refine (sync_calls s1.disk ok1 0).mono ?_
  rintro e w2 ⟨he, h2, k2⟩
  rw [e12] at he
  rw [a12] at h2
  subst he
  have s2 := s1.next h2 k2
  clear s1 h2 k2
  go_wp2_with fail
  refine (append_calls s2.disk ok2 0 sDef (by decide)).mono ?_
  rintro e w3 ⟨he, h3, k3⟩
  rw [e23] at he
  rw [a23] at h3
  subst he
  have s3 := s2.next h3 k3
  clear s2 h3 k3
  go_wp2_with fail
  have s3' := s3.keep ((Fr.refl _ w3).alloc (.cells #[.int .i64 2] 3))
  refine (crash_calls s3'.disk ok3 so3 _ 1 [2] (by decide) (C_lit w3 [2] 3 (by decide)) ?_ (by simp)).mono ?_
  · intro a ha
    injection ha with ha
    subst ha
    exact ⟨fun e => by have := lt_blk s3.disk.blk; simp at e; omega, fun e => by have := s3.disk.map.lt; simp at e; omega⟩
  rintro e w4 ⟨he, h4, k4⟩
  rw [a34] at h4
  subst he
  have s4 := s3'.next h4 k4
  clear s3 s3' h4 k4
  go_wp2_with fail
  refine (read_calls s4.disk 0).mono ?_
  rintro e w' ⟨he, rfl⟩
  rw [r4, wr4] at he
  subst he
  go_wp2_with fail
  refine (append_calls s4.disk ok4 0 sNum (by decide)).mono ?_
  rintro e w5 ⟨he, h5, k5⟩
  rw [e44] at he
  rw [a44] at h5
  subst he
  have s5 := s4.next h5 k5
  clear s4 h5 k5
  go_wp2_with fail
  refine (arm_calls s5.disk 1).mono ?_
  rintro e w6 ⟨he, h6, k6⟩
  rw [a45] at h6
  subst he
  have s6 := s5.next h6 k6
  clear s5 h6 k6
  go_wp2_with fail
  refine (append_calls s6.disk ok5 1 sX (by decide)).mono ?_
  rintro e w7 ⟨he, h7, k7⟩
  rw [e56] at he
  rw [a56] at h7
  subst he
  have s7 := s6.next h7 k7
  clear s6 h7 k7
  go_wp2_with fail
  have s7' := s7.keep ((Fr.refl _ w7).alloc (.cells #[.int .i64 1] 3))
  refine (crash_calls s7'.disk ok6 so6 _ 1 [1] (by decide) (C_lit w7 [1] 3 (by decide)) ?_ (by simp)).mono ?_
  · intro a ha
    injection ha with ha
    subst ha
    exact ⟨fun e => by have := lt_blk s7.disk.blk; simp at e; omega, fun e => by have := s7.disk.map.lt; simp at e; omega⟩
  rintro e w8 ⟨he, h8, k8⟩
  rw [a67] at h8
  subst he
  have s8 := s7'.next h8 k8
  clear s7 s7' h8 k8
  go_wp2_with fail
  refine (read_calls s8.disk 1).mono ?_
  rintro e w' ⟨he, rfl⟩
  rw [r7, wr7] at he
  subst he
  have hq1 : sAbcde.toList = [97, 98, 99, 100, 101] := by kernel_rfl
  have hq2 : sX.toList = [120] := by kernel_rfl
  go_wp2_with fail
  refine (files_calls s8.disk ok7).mono ?_
  rintro e w9 ⟨A, c, rfl, hc, hC, hA, k9⟩
  have hn7 : numbers d7.files = [0, 1] := n6
  rw [hn7] at hc hC ⊢
  have s9 := s8.keep k9
  go_wp2_with fail
  refine (ints_calls A c [0, 1] _ 2 [0, 1] _ (C_fr (flat_int _) hC ((Fr.refl (fun _ => False) w9).alloc _) (fun _ _ => id)) hc (C_lit w9 [0, 1] 3 (by decide)) (by decide)).mono ?_
  rintro e w10 ⟨rfl, k10⟩
  have s10 := (s9.keep ((Fr.refl _ w9).alloc _)).keep k10
  go_wp2
  go_ret
  exact ⟨rfl, s10.fr.to_below (fun _ _ => id)⟩
end Go.Proofs.Ytljfagagopaidaa
