/- SeglogFrames: for any record and any place the law's function returns true. -/
import Derived.Test.YtljfagagopaidaaAw
import Derived.Test.YtljfagagopaidaaTx
namespace Go.Proofs.Ytljfagagopaidaa
open Go.RowKit Go.Proofs.YtljfagagopaidaaW.PrintWords
set_option linter.unusedSimpArgs false
set_option linter.unusedVariables false
set_option maxRecDepth 100000

def qFirst : ByteArray := ⟨#[102, 105, 114, 115, 116]⟩
theorem good_first : goods [qFirst] := by
  intro r hr
  simp only [List.mem_cons, List.not_mem_nil, or_false] at hr
  subst hr
  exact ⟨by decide, by decide⟩
theorem size_first : (framesOf [qFirst]).size = 13 := by rw [framesOf_len]; rfl
theorem len_first : (framesL [qFirst]).length ≤ 1099511627776 := by rw [← framesOf_size, size_first]; decide
theorem size_s (s : ByteArray) : (framesOf [s]).size = 8 + s.size := by rw [framesOf_len]; simp
theorem size_fs (s : ByteArray) : (framesOf [qFirst, s]).size = 21 + s.size := by
  have : framesOf [qFirst, s] = framesOf [qFirst] ++ framesOf [s] := framesOf_append [qFirst] [s]
  rw [this, ByteArray.size_append, size_first, size_s]
  omega
theorem good_s {s : ByteArray} (h1 : 1 ≤ s.size) (h2 : s.size ≤ 2000) : goods [s] := by
  intro r hr
  simp only [List.mem_cons, List.not_mem_nil, or_false] at hr
  subst hr
  exact ⟨h1, by omega⟩

/-- The second record is cut off. -/
theorem cut_second {s : ByteArray} (h1 : 1 ≤ s.size) (h2 : s.size ≤ 2000) {n : Int} (hn0 : 25 ≤ n) (hn1 : n < 33 + s.size) : holdsR (cutS (logS 0 [qFirst, s]) n) = some ([qFirst], 25) := by
  obtain ⟨q, rfl⟩ : ∃ q : Nat, n = q := ⟨n.toNat, by omega⟩
  have hg : ∀ r ∈ [qFirst, s], goodR r := by
    intro r hr
    rcases List.mem_cons.1 hr with rfl | hr
    · exact good_first _ (by simp)
    · exact good_s h1 h2 r hr
  obtain ⟨j, hj1, hj2, hj3⟩ := holds_cut 0 (by decide) (by decide) [qFirst, s] hg q (by rw [size_fs]; omega)
  have ge1 : 1 ≤ j := hj2 1 (by simp) (by rw [show [qFirst, s].take 1 = [qFirst] from rfl, size_first]; omega)
  rw [if_pos ⟨by omega, by omega⟩] at hj3
  obtain ⟨e1, e2⟩ := hj3
  have le1 : j ≤ 1 := by
    rcases Nat.lt_or_ge j 2 with h | h
    · omega
    · have hj : j = 2 := by simp at hj1; omega
      subst hj
      rw [show [qFirst, s].take 2 = [qFirst, s] from rfl, size_fs] at e2
      omega
  have hj : j = 1 := by omega
  subst hj
  rw [show [qFirst, s].take 1 = [qFirst] from rfl, size_first] at e1
  unfold cutS
  rw [Int.toNat_natCast]
  exact e1

theorem place (at_ n : Int) (hz : 1 ≤ n) : -(8 + n) < at_.tmod (8 + n) ∧ at_.tmod (8 + n) < 8 + n ∧ 0 ≤ (at_.tmod (8 + n) + 8 + n) % (8 + n) ∧ (at_.tmod (8 + n) + 8 + n) % (8 + n) < 8 + n := by
  have a1 : at_.tmod (8 + n) < 8 + n := Int.tmod_lt_of_pos _ (by omega)
  have a2 : -(8 + n) < at_.tmod (8 + n) := by
    rcases Int.le_total 0 at_ with h | h
    · have := Int.tmod_nonneg (8 + n) h; omega
    · have h1 := Int.tmod_lt_of_pos (-at_) (b := 8 + n) (by omega)
      rw [Int.neg_tmod] at h1
      omega
  exact ⟨a2, a1, Int.emod_nonneg _ (by omega), Int.emod_lt_of_pos _ (by omega)⟩

set_option maxHeartbeats 4000000 in
theorem seglogFrames_calls (s : ByteArray) (hsz : s.size ≤ 9223372036854775807) (at_ : Int) (hat : -9223372036854775808 ≤ at_ ∧ at_ ≤ 9223372036854775807) (w : World) : Calls Try.prog 8 #[.string s, .int .i64 at_] w fun e w' => e = .returned (.bool true) ∧ Below w.heap.size w w' := by
  by_cases hs : 1 ≤ s.size ∧ s.size ≤ 2000
  · obtain ⟨h1, h2⟩ := hs
    have h1I : ¬ ((s.size : Int) < 1) := by omega
    have h2I : ¬ (2000 < (s.size : Int)) := by omega
    go_enter Try.func8, Try.ntmps8
    go_wp2_with fail
    refine (new_calls _ 10000 (by decide) (by decide)).mono ?_
    rintro e w0 ⟨rfl, h0, k0, hz⟩
    obtain ⟨g, hg⟩ : ∃ g, g = w.heap.size + 1 := ⟨_, rfl⟩
    obtain ⟨m, hm⟩ : ∃ m, m = w.heap.size := ⟨_, rfl⟩
    rw [← hg] at h0 ⊢
    rw [← hm] at h0
    have s0 : Since w w0 g m (Dk.new 10000) := ⟨h0, by omega, k0⟩
    clear hz hg hm h0 k0
    have gd0 : Good (Dk.new 10000) := good_new' (by decide) (by decide)
    have st0 := st_new 10000
    have hn0 := newest_empty st0
    have ho0 := openT_none st0 gd0 hn0
    have hop := open_ok s0.disk gd0 rfl ho0.1
    rw [hn0] at hop
    have st1 := ho0.2
    have gd1 := gd0.openT
    obtain ⟨d1, hd1⟩ : ∃ d1, d1 = (openT (Dk.new 10000)).2 := ⟨_, rfl⟩
    rw [← hd1] at hop st1 gd1
    clear hd1 ho0 hn0 st0 gd0
    go_wp2_with fail
    refine hop.mono ?_
    rintro e w1 ⟨b, A, c, rfl, on1, hc, hC, hb, hA, k1⟩
    clear hop
    have s1 := Sn.first s0 on1 hb k1
    have hl0 : (newOwn (none : Option Own)).length = 0 := rfl
    clear on1 hC hA k1 hb s0
    -- Append("first")
    have hap := app_none (F := 0) st1 (by decide) (by decide) good_first (by decide) (by rw [size_first]; decide)
    have gd2 := gd1.lapp ⟨0, false, false⟩ [qFirst]
    have Happ : ∀ {W : World} {A : Option Addr} {c : Nat}, On W g m b d1 ⟨0, false, false⟩ → Kd.string.C W A [qFirst].length [qFirst] → Calls Try.prog 42 #[.pointer (some ⟨b, 0, none⟩), .slice A [qFirst].length c] W fun e w' => e = .returned (.int .i64 0) ∧ On w' g m b ((⟨0, false, false⟩ : Lg).appD d1 [qFirst]) ⟨0, true, false⟩ ∧ Fr (Three g m b) W w' := by
      intro W A c ho hC
      have := lappend_calls ho gd1.ok' A c _ hC len_first
      rw [hap.1, hap.2.2] at this
      exact this
    have st2 := hap.2.1
    obtain ⟨d2, hd2⟩ : ∃ d2, d2 = (⟨0, false, false⟩ : Lg).appD d1 [qFirst] := ⟨_, rfl⟩
    rw [← hd2] at st2 gd2 Happ
    have st2' : St d2 [⟨0, logS 0 [qFirst], 0⟩] 10000 0 false := st2
    clear hap hd2 st1 gd1 st2
    go_wp2_with fail
    have hC1 := C_strs w1 [qFirst] (by decide)
    have s2 := s1.keep ((Fr.refl (fun _ => False) w1).alloc (.cells (([qFirst].map Value.string).toArray) 9))
    refine (Happ (c := 1) s2.on hC1).mono ?_
    rintro e w2 ⟨rfl, on3, k3⟩
    have s3 := s2.next on3 k3
    clear Happ hC1 k3 on3 s1 s2
    -- Append(s)
    have hap := app_some (F := 0) st2' (by decide) (by decide) (good_s h1 h2) (by simp) (by show ((12 + (framesOf [qFirst, s]).size : Nat) : Int) ≤ 10000; rw [size_fs]; omega)
    have gd3 := gd2.lapp ⟨0, true, false⟩ [s]
    have Happ : ∀ {W : World} {A : Option Addr} {c : Nat}, On W g m b d2 ⟨0, true, false⟩ → Kd.string.C W A [s].length [s] → Calls Try.prog 42 #[.pointer (some ⟨b, 0, none⟩), .slice A [s].length c] W fun e w' => e = .returned (.int .i64 0) ∧ On w' g m b ((⟨0, true, false⟩ : Lg).appD d2 [s]) ⟨0, true, false⟩ ∧ Fr (Three g m b) W w' := by
      intro W A c ho hC
      have := lappend_calls ho gd2.ok' A c _ hC (by rw [← framesOf_size, size_s]; omega)
      rw [hap.1, hap.2.2] at this
      exact this
    have st3 := hap.2.1
    obtain ⟨d3, hd3⟩ : ∃ d3, d3 = (⟨0, true, false⟩ : Lg).appD d2 [s] := ⟨_, rfl⟩
    rw [← hd3] at st3 gd3 Happ
    have st3' : St d3 [⟨0, logS 0 [qFirst, s], 0⟩] 10000 0 false := st3
    clear hap hd3 st2' gd2 st3
    go_wp2_with fail
    have hC1 := C_one w2 s
    have s4 := s3.keep ((Fr.refl (fun _ => False) w2).alloc (.cells #[.string s] 9))
    refine (Happ (c := 1) s4.on hC1).mono ?_
    rintro e w3 ⟨rfl, on4, k4⟩
    have s5 := s4.next on4 k4
    clear Happ hC1 k4 on4 s3 s4
    -- Size
    have hby : bytes d3.files = 33 + s.size := by
      rw [st3'.files]
      simp only [bytes, List.map_cons, List.map_nil, List.sum_cons, List.sum_nil]
      rw [logS_size, size_fs]
      omega
    have hsize := size_calls s5.on.disk (by rw [hby]; omega)
    rw [hby] at hsize
    go_wp2_with fail
    refine hsize.mono ?_
    rintro e w4 ⟨rfl, h4, k4⟩
    have s6 := s5.keep k4
    clear hsize h4 k4 s5
    -- the place
    obtain ⟨p2, p3, p0, p1⟩ := place at_ s.size (by omega)
    obtain ⟨P, hP⟩ : ∃ P, P = (at_.tmod (8 + (s.size : Int)) + 8 + (s.size : Int)) % (8 + (s.size : Int)) := ⟨_, rfl⟩
    rw [← hP] at p0 p1
    have hwP : wrap64 (25 + (at_.tmod (8 + (s.size : Int)) + 8 + (s.size : Int)) % (8 + (s.size : Int))) = 25 + P := by
      rw [← hP]
      exact IntWalk.wrap64_in _ (by omega)
    have HwP := Lib.hid hwP
    clear hwP hP
    have hcu := st3'.cut (by decide) (F := 0) (k := 25 + P) (by decide) (by omega) (by rw [sAt_one, logS_size, size_fs]; omega)
    have st6 := hcu.2.2 (by decide)
    unfold cutL at st6
    rw [look_one, if_pos rfl, sAt_one, lay_one] at st6
    have gd6 := gd3.cut 0 (25 + P)
    have hcc := fun (W : World) (ho : DiskAt W g m d3) => cut_calls ho gd3.ok' 0 (25 + P)
    rw [hcu.1] at hcc
    have hh := cut_second h1 h2 (n := 25 + P) (by omega) (by omega)
    obtain ⟨d6, hd6⟩ : ∃ d6, d6 = d3.cut 0 (25 + P) := ⟨_, rfl⟩
    rw [← hd6] at st6 gd6 hcc
    clear hcu hd6 hby
    have Hp := Lib.hid (And.intro p0 p1)
    clear p0 p1
    go_wp2_with fail
    rw [HwP.out]
    refine (hcc _ s6.on.disk).mono ?_
    rintro e w6 ⟨rfl, h6, k6⟩
    have s7 := s6.nextD h6 k6
    clear hcc h6 k6 s6 st3' gd3 p2 p3
    -- Open
    have hn6 : newestD d6 = some ⟨0, [qFirst], 25⟩ := by rw [newest_one st6 (by decide), hh]; rfl
    have ho6 := openT_some st6 gd6 hn6
    have hop := open_ok s7.on.disk gd6 st6.dead ho6.1
    rw [hn6] at hop
    have st7 := ho6.2.1
    have gd7 := gd6.openT
    obtain ⟨d7, hd7⟩ : ∃ d7, d7 = (openT d6).2 := ⟨_, rfl⟩
    rw [← hd7] at hop st7 gd7
    have hz25 : bytes d7.files = 25 := by
      rw [st7.files]
      simp only [bytes, List.map_cons, List.map_nil, List.sum_cons, List.sum_nil]
      have := size_cutS (s := sAt [⟨0, cutS (logS 0 [qFirst, s]) (25 + P), 25 + P⟩] 0) (n := 25) (by decide) ho6.2.2.2.1
      omega
    clear hd7 ho6 hn6 st6 gd6 hh
    have hop' : Calls Try.prog 41 #[.pointer (some ⟨g, 0, none⟩)] w6 fun e w' => ∃ (b : Nat) (A : Option Addr) (c : Nat), e = .returned (.tuple #[.pointer (some ⟨b, 0, none⟩), .slice A [qFirst].length c, .int .i64 0]) ∧
      On w' g m b d7 ⟨0, true, false⟩ ∧ [qFirst].length ≤ c ∧ Kd.string.C w' A [qFirst].length [qFirst] ∧ w6.heap.size ≤ b ∧ (∀ a, A = some a → w6.heap.size ≤ a.block ∧ a.block ≠ b) ∧ Fr (Two g m) w6 w' := hop
    clear hop
    go_wp2_with fail
    refine hop'.mono ?_
    rintro e w7 ⟨b7, A7, c7, rfl, on7, hc7, hC7, hb7, hA7, k7⟩
    have s8 := s7.again on7 hb7 k7
    clear hop' on7 hA7 k7 hb7 s7
    -- texts
    have k8 := (Fr.refl (fun _ => False) w7).alloc (.cells (([qFirst].map Value.string).toArray) 9)
    have hC8 := C_strs w7 [qFirst] (by decide)
    have s9 := s8.keep k8
    have hC7' := C_fr flat_string hC7 k8 (fun _ _ => id)
    have htx := texts_calls A7 c7 [qFirst] _ 1 [qFirst] _ hC7' hc7 hC8 (by decide)
    rw [decide_eq_true (rfl : [qFirst] = [qFirst])] at htx
    go_wp2_with fail
    refine htx.mono ?_
    rintro e w8 ⟨rfl, k9⟩
    have s10 := s9.keep k9
    clear htx hC7 hC7' hC8 k8 k9 s8 s9
    -- Size
    have hsize := size_calls s10.on.disk (by rw [hz25]; decide)
    rw [hz25] at hsize
    go_wp2_with fail
    refine hsize.mono ?_
    rintro e w9 ⟨rfl, h9, k9⟩
    have s11 := s10.keep k9
    clear hsize h9 k9 s10
    go_wp2_with fail
    refine (awake17_calls _).mono ?_
    rintro e w10 ⟨rfl, b10⟩
    go_wp2
    go_ret
    exact ⟨rfl, (s11.fr.trans (Fr.of_below b10)).to_below (fun _ _ => id)⟩
  · have hs' : (s.size : Int) < 1 ∨ (¬ ((s.size : Int) < 1) ∧ 2000 < (s.size : Int)) := by omega
    clear hs
    rcases hs' with h1 | ⟨h1, h2⟩
    all_goals
      go_enter Try.func8, Try.ntmps8
      go_wp2_with fail
      refine (awake17_calls _).mono ?_
      rintro e w10 ⟨rfl, b10⟩
      go_wp2
      go_ret
      exact ⟨rfl, b10⟩

end Go.Proofs.Ytljfagagopaidaa
