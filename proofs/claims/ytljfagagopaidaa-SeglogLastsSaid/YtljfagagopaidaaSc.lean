/- Behind a crash, and the log opened: all that was synced is there, and behind it a beginning of the rest; no program in sight. -/
import Derived.Test.YtljfagagopaidaaSy
namespace Go.Proofs.Ytljfagagopaidaa
open Go.RowKit
set_option linter.unusedSimpArgs false
set_option linter.unusedVariables false

theorem good_crash {d : Dk} (gd : Good d) (hs : d.files.Pairwise (fun a b => a.k < b.k)) (ks : List Int) (hk : ∀ k ∈ ks, -9223372036854775808 ≤ k) : Good (d.crash ks) :=
  (gd.rcrash ks hk).alike ((Alike.refl d).crash hs ks).symm

theorem crash_step {F : Int} {fs ks : List Int} {pre post : List Fl} {s : ByteArray} {z : Int} (ha : Apart (pre ++ ⟨F, s, z⟩ :: post)) (h0 : 0 ≤ z) (h1 : z ≤ s.size) :
    ∃ (q : Nat) (ks' : List Int), z ≤ q ∧ q ≤ s.size ∧ crashL (F :: fs) ks (pre ++ ⟨F, s, z⟩ :: post) = crashL fs ks' (pre ++ ⟨F, s.extract 0 q, q⟩ :: post) := by
  have hl : look (pre ++ ⟨F, s, z⟩ :: post) F = some ⟨F, s, z⟩ := look_of ha (x := ⟨F, s, z⟩) (by simp)
  have hs : sAt (pre ++ ⟨F, s, z⟩ :: post) F = s := by unfold sAt; rw [hl]; rfl
  have hn : nAt (pre ++ ⟨F, s, z⟩ :: post) F = z := by unfold nAt; rw [hl]; rfl
  by_cases hz : (s.size : Int) - z = 0
  · refine ⟨s.size, ks, h1, Nat.le_refl _, ?_⟩
    rw [crashL_skip (by rw [hs, hn]; exact hz), cut_all']
    have : z = (s.size : Int) := by omega
    rw [this]
  · have hk0 : 0 ≤ keepOf (ks.headD 0) := by unfold keepOf; split <;> omega
    have ht0 : 0 ≤ (keepOf (ks.headD 0)).tmod ((s.size : Int) - z + 1) := Int.tmod_nonneg _ hk0
    have ht1 : (keepOf (ks.headD 0)).tmod ((s.size : Int) - z + 1) < (s.size : Int) - z + 1 := Int.tmod_lt_of_pos _ (by omega)
    obtain ⟨q, hq⟩ : ∃ q : Nat, (q : Int) = z + (keepOf (ks.headD 0)).tmod ((s.size : Int) - z + 1) := ⟨(z + (keepOf (ks.headD 0)).tmod ((s.size : Int) - z + 1)).toNat, by omega⟩
    refine ⟨q, ks.tail, by omega, by omega, ?_⟩
    rw [crashL_cut (by rw [hs, hn]; exact hz) (q : Int) (by rw [hs, hn]; exact hq), hs]
    have hc : cutS s (q : Int) = s.extract 0 q := rfl
    rw [hc, lay_in ha (y := ⟨F, s.extract 0 q, q⟩) rfl]

/-- The disk behind a crash. -/
structure Post (d : Dk) (all : List ByteArray) (k i f : Nat) : Prop where
  gd : Good d
  good : goods all
  kle : k ≤ all.length
  size : (framesOf all).size ≤ 9000 * i
  files : ∃ (F : Int) (old new : List Fl), 0 ≤ F ∧ F < f + 1 ∧ St d (old ++ new) lim20 0 false ∧
    (old = [] ∧ k = 0 ∨ ∃ (n : Int) (q : Nat), old = [⟨F, (logS n all).extract 0 q, q⟩] ∧ q ≤ (logS n all).size ∧ 0 ≤ n ∧ n ≤ k ∧ (12 + (framesOf (all.take k)).size ≤ q ∨ k = 0)) ∧
    (new = [] ∧ (old = [] → all = []) ∨ ∃ p : Nat, new = [⟨F + 1, (logS all.length all).extract 0 p, p⟩] ∧ p ≤ (logS all.length all).size)

theorem apart_two {F : Int} {s t : ByteArray} {z y : Int} : Apart [⟨F, s, z⟩, ⟨F + 1, t, y⟩] := by
  unfold Apart
  simp
  omega

theorem old_parts {F : Int} {all : List ByteArray} {k : Nat} {x : Fl} (hx : OldF F all k x ∨ (k = 0 ∧ x.k = F ∧ x.s = logS 0 all ∧ x.n = 0)) (gn : 0 ≤ x.n) :
    ∃ n : Int, x = ⟨F, logS n all, x.n⟩ ∧ 0 ≤ x.n ∧ x.n ≤ (logS n all).size ∧ 0 ≤ n ∧ n ≤ k ∧ (((12 + (framesOf (all.take k)).size : Nat) : Int) ≤ x.n ∨ k = 0) := by
  rcases hx with ho | ⟨h0, h1, h2, h3⟩
  · obtain ⟨n, hn1, hn2, hn3⟩ := ho.form
    refine ⟨n, ?_, gn, ?_, hn2, hn3, .inl ho.low⟩
    · obtain ⟨xk, xs, xn⟩ := x
      have := ho.key
      simp only at hn1 this
      rw [hn1, this]
    · have := ho.high
      rwa [hn1] at this
  · refine ⟨0, ?_, gn, by omega, Int.le_refl _, by omega, .inr h0⟩
    obtain ⟨xk, xs, xn⟩ := x
    simp only at h1 h2
    rw [h1, h2]

theorem pre_crash {d : Dk} {all : List ByteArray} {k i f : Nat} (h : Pre d all k i f) (ks : List Int) (hks : ∀ x ∈ ks, -9223372036854775808 ≤ x) : Post (d.crash ks) all k i f := by
  obtain ⟨F, old, new, hF0, hF1, hfs, hold, hnew⟩ := h.files
  have st : ∀ fs, (d.crash ks).files = fs → St (d.crash ks) fs lim20 0 false := fun fs e => ⟨e, h.limit, rfl, rfl⟩
  have hc : (d.crash ks).files = crashL (numbers d.files) ks d.files := rfl
  have hsound : ∀ x ∈ d.files, 0 ≤ x.n := fun x hx => (h.gd.sound x hx).1
  rcases hold with ⟨rfl, hk⟩ | ⟨x, rfl, hx⟩
  · rcases hnew with ⟨rfl, hall⟩ | ⟨y, rfl, hy⟩
    · have e0 : d.files = [] := by rw [hfs]; rfl
      have e1 : (d.crash ks).files = [] := by rw [hc, e0]; simp [numbers, sortZ, crashL]
      exact ⟨good_crash h.gd (by rw [e0]; exact List.Pairwise.nil) ks hks, h.good, h.kle, h.size, F, [], [], hF0, hF1, st _ e1, .inl ⟨rfl, hk⟩, .inl ⟨rfl, hall⟩⟩
    · have e0 : d.files = [⟨F + 1, logS all.length all, y.n⟩] := by
        rw [hfs]
        obtain ⟨yk, ys, yn⟩ := y
        have h1 := hy.key
        have h2 := hy.form
        simp only at h1 h2
        rw [h1, h2]
        rfl
      have hyn : 0 ≤ y.n ∧ y.n ≤ (logS all.length all).size := by
        have := hy.n
        rw [hy.form] at this
        omega
      obtain ⟨q, ks', q1, q2, q3⟩ := crash_step (F := F + 1) (fs := []) (ks := ks) (pre := []) (post := []) (s := logS all.length all) (z := y.n) (by simp [Apart]) hyn.1 hyn.2
      have e1 : (d.crash ks).files = [⟨F + 1, (logS all.length all).extract 0 q, q⟩] := by
        rw [hc, e0, numbers_one]
        exact q3
      exact ⟨good_crash h.gd (by rw [e0]; simp) ks hks, h.good, h.kle, h.size, F, [], [_], hF0, hF1, st _ e1, .inl ⟨rfl, hk⟩, .inr ⟨q, rfl, q2⟩⟩
  · have hx0 : 0 ≤ x.n := hsound x (by rw [hfs]; simp)
    obtain ⟨n, ex, hn0, hn1, hm0, hm1, hlow⟩ := old_parts hx hx0
    rcases hnew with ⟨rfl, hall⟩ | ⟨y, rfl, hy⟩
    · have e0 : d.files = [⟨F, logS n all, x.n⟩] := by rw [hfs, ← ex]; rfl
      obtain ⟨q, ks', q1, q2, q3⟩ := crash_step (F := F) (fs := []) (ks := ks) (pre := []) (post := []) (s := logS n all) (z := x.n) (by simp [Apart]) hn0 hn1
      have e1 : (d.crash ks).files = [⟨F, (logS n all).extract 0 q, q⟩] := by
        rw [hc, e0, numbers_one]
        exact q3
      exact ⟨good_crash h.gd (by rw [e0]; simp) ks hks, h.good, h.kle, h.size, F, [_], [], hF0, hF1, st _ e1, .inr ⟨n, q, rfl, q2, hm0, hm1, by omega⟩, .inl ⟨rfl, fun e => by cases e⟩⟩
    · have ey : y = ⟨F + 1, logS all.length all, y.n⟩ := by
        obtain ⟨yk, ys, yn⟩ := y
        have h1 := hy.key
        have h2 := hy.form
        simp only at h1 h2
        rw [h1, h2]
      have e0 : d.files = [⟨F, logS n all, x.n⟩, ⟨F + 1, logS all.length all, y.n⟩] := by rw [hfs, ← ex, ← ey]; rfl
      have hyn : 0 ≤ y.n ∧ y.n ≤ (logS all.length all).size := by
        have := hy.n
        rw [hy.form] at this
        omega
      obtain ⟨q, ks', q1, q2, q3⟩ := crash_step (F := F) (fs := [F + 1]) (ks := ks) (pre := []) (post := [⟨F + 1, logS all.length all, y.n⟩]) (s := logS n all) (z := x.n) apart_two hn0 hn1
      obtain ⟨p, ks2, p1, p2, p3⟩ := crash_step (F := F + 1) (fs := []) (ks := ks') (pre := [⟨F, (logS n all).extract 0 q, q⟩]) (post := []) (s := logS all.length all) (z := y.n) apart_two hyn.1 hyn.2
      have e1 : (d.crash ks).files = [⟨F, (logS n all).extract 0 q, q⟩, ⟨F + 1, (logS all.length all).extract 0 p, p⟩] := by
        rw [hc, e0, numbers_two]
        exact q3.trans p3
      exact ⟨good_crash h.gd (by rw [e0]; simp; omega) ks hks, h.good, h.kle, h.size, F, [_], [_], hF0, hF1, st _ e1, .inr ⟨n, q, rfl, q2, hm0, hm1, by omega⟩, .inr ⟨p, rfl, p2⟩⟩

/-- What the log's own file says behind a crash. -/
theorem old_says {all : List ByteArray} (hg : goods all) {n : Int} (h0 : 0 ≤ n) {k : Nat} (hk : k ≤ all.length) (hnk : n ≤ k) (hlen : all.length < 4294967296) {q : Nat} (hq : q ≤ (logS n all).size) (hlow : 12 + (framesOf (all.take k)).size ≤ q ∨ k = 0) :
    (holdsR ((logS n all).extract 0 q) = none ∧ k = 0) ∨ ∃ j : Nat, k ≤ j ∧ j ≤ all.length ∧ n ≤ j ∧ holdsR ((logS n all).extract 0 q) = some (all.take j, ((12 + (framesOf (all.take j)).size : Nat) : Int)) ∧ 12 + (framesOf (all.take j)).size ≤ q := by
  rw [logS_size] at hq
  obtain ⟨j, j1, j2, j3⟩ := holds_cut n h0 (by omega) all hg q hq
  by_cases hc : 12 ≤ q ∧ n ≤ j
  · rw [if_pos hc] at j3
    right
    refine ⟨j, ?_, j1, hc.2, j3.1, j3.2⟩
    rcases hlow with h | h
    · exact j2 k hk h
    · omega
  · rw [if_neg hc] at j3
    left
    refine ⟨j3, ?_⟩
    rcases hlow with h | h
    · exfalso
      have := j2 k hk h
      exact hc ⟨by omega, by omega⟩
    · exact h

theorem len_le_frames (l : List ByteArray) : l.length ≤ (framesOf l).size := by
  rw [framesOf_len]
  induction l with
  | nil => exact Nat.le_refl _
  | cons r l ih => simp only [List.length_cons, List.map_cons, List.sum_cons]; omega

theorem frames_take (all : List ByteArray) (j : Nat) : (framesOf (all.take j)).size ≤ (framesOf all).size := by
  have := framesL_prefix all j
  rwa [← framesOf_size, ← framesOf_size] at this

/-- The log's file behind Open is whole and synced. -/
theorem opened_cut {n : Int} {all : List ByteArray} {q : Nat} {j : Nat} (hj : j ≤ all.length) (h : 12 + (framesOf (all.take j)).size ≤ q) :
    cutS ((logS n all).extract 0 q) ((12 + (framesOf (all.take j)).size : Nat) : Int) = logS n (all.take j) := by
  unfold cutS
  rw [Int.toNat_natCast]
  have e : logS n all = logS n (all.take j) ++ framesOf (all.drop j) := by rw [logS_append, List.take_append_drop]
  rw [e]
  have hz : (logS n (all.take j)).size = 12 + (framesOf (all.take j)).size := logS_size _ _
  rw [cut_app_right (by omega), hz, cut_app_left (by omega), cut_all (by omega)]

theorem goods_take {l : List ByteArray} (h : goods l) (j : Nat) : goods (l.take j) := fun r hr => h r (List.mem_of_mem_take hr)

/-- The state behind Open, of a log's file. -/
theorem inv_of {d : Dk} {F n : Int} {own : List ByteArray} {i f : Nat} (gd : Good d) (hs : St d [⟨F, logS n own, ((logS n own).size : Int)⟩] lim20 0 false) (hg : goods own) (hz : (framesOf own).size ≤ 9000 * i) (hF : 0 ≤ F ∧ F ≤ f) (hn0 : 0 ≤ n) (hn : n ≤ own.length) :
    Inv d ⟨F, true, false⟩ 0 own own.length i f :=
  ⟨gd, hg, Nat.le_refl _, hz, rfl, hF, .inr ⟨rfl, _, hs, .inl ⟨rfl, ⟨n, rfl, hn0, hn⟩, by
    show ((12 + (framesOf (own.take own.length)).size : Nat) : Int) ≤ ((logS n own).size : Int)
    rw [List.take_length, logS_size]
    exact Int.le_refl _, Int.le_refl _⟩⟩⟩

theorem post_open {d : Dk} {all : List ByteArray} {k i f : Nat} (h : Post d all k i f) (hi : i ≤ 40) (hf : f ≤ 1000) :
    (openT d).1 = 0 ∧ ∃ j, k ≤ j ∧ j ≤ all.length ∧ newOwn (newestD d) = all.take j ∧ Inv (openT d).2 (newLog (newestD d)) 0 (all.take j) (all.take j).length i (f + 1) := by
  obtain ⟨F, old, new, hF0, hF1, hst, hold, hnew⟩ := h.files
  have hsz := h.size
  have hll := len_le_frames all
  have htk := frames_take all
  have gT := h.gd.openT
  -- nothing holds
  have none_case : newestD d = none → k = 0 → (openT d).1 = 0 ∧ ∃ j, k ≤ j ∧ j ≤ all.length ∧ newOwn (newestD d) = all.take j ∧ Inv (openT d).2 (newLog (newestD d)) 0 (all.take j) (all.take j).length i (f + 1) := by
    intro hn hk
    have ho := openT_none hst h.gd hn
    rw [hn]
    refine ⟨ho.1, 0, by omega, Nat.zero_le _, rfl, ?_⟩
    exact ⟨gT, (fun r hr => by cases hr), Nat.le_refl _, Nat.zero_le _, rfl, ⟨Int.le_refl 0, by show (0 : Int) ≤ _; omega⟩, .inl ⟨rfl, ho.2, rfl, rfl⟩⟩
  -- a file holds
  have some_case : ∀ (G n : Int) (q j : Nat), sAt (old ++ new) G = (logS n all).extract 0 q → 0 ≤ G → G ≤ f + 1 → 0 ≤ n → n ≤ j → k ≤ j → j ≤ all.length → 12 + (framesOf (all.take j)).size ≤ q →
      newestD d = some ⟨G, all.take j, ((12 + (framesOf (all.take j)).size : Nat) : Int)⟩ →
      (openT d).1 = 0 ∧ ∃ j, k ≤ j ∧ j ≤ all.length ∧ newOwn (newestD d) = all.take j ∧ Inv (openT d).2 (newLog (newestD d)) 0 (all.take j) (all.take j).length i (f + 1) := by
    intro G n q j hG hG0 hG1 hn0 hnj hkj hj hq hn
    have ho := openT_some hst h.gd hn
    simp only at ho
    rw [hG, opened_cut hj hq] at ho
    rw [hn]
    refine ⟨ho.1, j, hkj, hj, rfl, ?_⟩
    have hlen : (all.take j).length = j := by rw [List.length_take]; omega
    refine inv_of (n := n) gT ?_ (goods_take h.good j) (by have := htk j; omega) ⟨hG0, by show G ≤ _; omega⟩ hn0 (by omega)
    have := ho.2.1
    rw [show ((12 + (framesOf (all.take j)).size : Nat) : Int) = ((logS n (all.take j)).size : Int) by rw [logS_size]] at this
    exact this
  rcases hnew with ⟨rfl, hall⟩ | ⟨p, rfl, hp⟩
  · rcases hold with ⟨rfl, hk⟩ | ⟨n, q, rfl, hq, hn0, hnk, hlow⟩
    · exact none_case (newest_empty hst) hk
    · have hne := newest_one (F := F) hst (by omega)
      rcases old_says h.good hn0 h.kle hnk (by omega) hq hlow with ⟨e, hk⟩ | ⟨j, j1, j2, j3, j4, j5⟩
      · exact none_case (by rw [hne, e]; rfl) hk
      · exact some_case F n q j (by rw [List.append_nil, sAt_one]) hF0 (by omega) hn0 j3 j1 j2 j5 (by rw [hne, j4]; rfl)
  · have hnew := old_says (k := 0) h.good (n := all.length) (by omega) (Nat.zero_le _) (q := p)
    have hpz := hp
    rw [logS_size] at hp
    obtain ⟨j, j1, j2, j3⟩ := holds_cut all.length (by omega) (by omega) all h.good p hp
    rcases hold with ⟨rfl, hk⟩ | ⟨n, q, rfl, hq, hn0, hnk, hlow⟩
    · have hne := newest_one (F := F + 1) hst (by omega)
      by_cases hc : 12 ≤ p ∧ (all.length : Int) ≤ j
      · rw [if_pos hc] at j3
        exact some_case (F + 1) all.length p j (by rw [List.nil_append, sAt_one]) (by omega) (by omega) (by omega) hc.2 (by omega) j1 j3.2 (by rw [hne]; unfold logS; rw [j3.1]; rfl)
      · rw [if_neg hc] at j3
        exact none_case (by rw [hne]; unfold logS; rw [j3]; rfl) hk
    · have hne := newest_two (F := F) hst (by omega)
      by_cases hc : 12 ≤ p ∧ (all.length : Int) ≤ j
      · rw [if_pos hc] at j3
        refine some_case (F + 1) all.length p j ?_ (by omega) (by omega) (by omega) hc.2 (by have := h.kle; omega) j1 j3.2 ?_
        · exact sAt_new (fs := [⟨F, (logS n all).extract 0 q, q⟩]) (by simp; omega)
        · rw [hne]
          unfold logS
          rw [j3.1]
      · rw [if_neg hc] at j3
        have hne2 : newestD d = (holdsR ((logS n all).extract 0 q)).map fun p => ⟨F, p.1, p.2⟩ := by
          rw [hne]
          unfold logS at *
          rw [j3]
        rcases old_says h.good hn0 h.kle hnk (by omega) hq hlow with ⟨e, hk⟩ | ⟨j', i1, i2, i3, i4, i5⟩
        · exact none_case (by rw [hne2, e]; rfl) hk
        · refine some_case F n q j' ?_ hF0 (by omega) hn0 i3 i1 i2 i5 (by rw [hne2, i4]; rfl)
          simp [sAt, look]

/-- The log is opened once more: it is as it was. -/
theorem inv_again {d : Dk} {l : Lg} {all : List ByteArray} {i f : Nat} (h : Inv d l 0 all all.length i f) (hi : i ≤ 41) (hf : f ≤ 1001) :
    (openT d).1 = 0 ∧ newOwn (newestD d) = all ∧ Inv (openT d).2 l 0 all all.length i f := by
  have hsz := h.size
  have hll := len_le_frames all
  have gT := h.gd.openT
  have hF := h.file
  rcases h.st with ⟨hb, hst, rfl, _⟩ | ⟨hb, x, hst, hx⟩
  · have hn := newest_empty hst
    have ho := openT_none hst h.gd hn
    rw [hn]
    exact ⟨ho.1, rfl, gT, h.good, Nat.le_refl _, h.size, h.alive, h.file, .inl ⟨hb, ho.2, rfl, rfl⟩⟩
  · obtain ⟨n, hxk, hxs, hn0, hn1⟩ : ∃ n : Int, x.k = l.file ∧ x.s = logS n all ∧ 0 ≤ n ∧ n ≤ all.length := by
      rcases hx with ho | ⟨h0, h1, h2, h3⟩
      · obtain ⟨n, hn1, hn2, hn3⟩ := ho.form
        exact ⟨n, ho.key, hn1, hn2, hn3⟩
      · exact ⟨0, h1, h2, Int.le_refl _, by omega⟩
    have hst' : St d [⟨l.file, logS n all, x.n⟩] lim20 0 false := by
      have : x = ⟨l.file, logS n all, x.n⟩ := by cases x; simp at hxk hxs ⊢; exact ⟨hxk, hxs⟩
      rw [← this]
      exact hst
    have hw : holdsR (logS n all) = some (all, ((logS n all).size : Int)) := holds_whole n hn0 (by omega) all h.good hn1
    have hn : newestD d = some ⟨l.file, all, ((logS n all).size : Int)⟩ := by rw [newest_one hst' (by omega), hw]; rfl
    have ho := openT_some hst' h.gd hn
    simp only [sAt_one] at ho
    have hcx : cutS (logS n all) ((logS n all).size : Int) = logS n all := by unfold cutS; rw [Int.toNat_natCast]; exact cut_all' _
    rw [hcx] at ho
    rw [hn]
    refine ⟨ho.1, rfl, ?_⟩
    have := inv_of gT ho.2.1 h.good h.size hF hn0 hn1
    rw [lg_eta l h.alive, hb]
    exact this

end Go.Proofs.Ytljfagagopaidaa
