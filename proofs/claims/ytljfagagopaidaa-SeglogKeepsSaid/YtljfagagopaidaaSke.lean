/- SeglogKeeps: for any records the law's function returns true: a log that is compacted has just those records. -/
import Derived.Test.YtljfagagopaidaaAw
import Derived.Test.YtljfagagopaidaaTx
namespace Go.Proofs.Ytljfagagopaidaa
open Go.RowKit Go.Proofs.YtljfagagopaidaaW.PrintWords
set_option linter.unusedSimpArgs false
set_option linter.unusedVariables false
set_option maxRecDepth 100000

theorem len_le_sum (l : List ByteArray) : l.length ≤ (l.map fun r => 1 + r.size).sum := by
  induction l with
  | nil => exact Nat.zero_le _
  | cons r l ih => simp only [List.length_cons, List.map_cons, List.sum_cons]; omega
theorem frames_few (l : List ByteArray) : (framesOf l).size ≤ 8 * sumT l := by
  induction l with
  | nil => exact Nat.zero_le _
  | cons r l ih => rw [framesOf_cons, ByteArray.size_append, frame_size, sumT_cons]; omega
theorem sumT_mem {l : List ByteArray} {r : ByteArray} (h : r ∈ l) : 1 + r.size ≤ sumT l := by
  induction l with
  | nil => cases h
  | cons x l ih =>
    rw [sumT_cons]
    rcases List.mem_cons.1 h with rfl | h
    · omega
    · have := ih h; omega
theorem few_goods {l : List ByteArray} (hf : fewB l = true) (hn : ∀ r ∈ l, r.size ≠ 0) : goods l := by
  intro r hr
  have h1 := of_decide_eq_true hf
  have h2 := sumT_mem hr
  have h3 := hn r hr
  exact ⟨by omega, by omega⟩
theorem few_len {l : List ByteArray} (hf : fewB l = true) : (framesL l).length ≤ 16000 := by
  have h1 := of_decide_eq_true hf
  have h2 := frames_few l
  rw [framesOf_size] at h2
  omega
theorem take_all {α : Type} {l : List α} {i : Nat} (h : i < l.length) (P : α → Prop) (ht : ∀ r ∈ l.take i, P r) (hx : P l[i]) : ∀ r ∈ l.take (i + 1), P r := by
  intro r hr
  rw [List.take_succ_eq_append_getElem h] at hr
  rcases List.mem_append.1 hr with hr | hr
  · exact ht r hr
  · rw [List.mem_singleton.1 hr]; exact hx

set_option maxHeartbeats 4000000 in
/-- What is left when all records are there. -/
theorem keeps_tail (A0 : Option Addr) (c0 : Nat) (first : List ByteArray) (A1 : Option Addr) (c1 : Nat) (then_ : List ByteArray) (w : World) (hC0 : Kd.string.C w A0 first.length first) (hC1 : Kd.string.C w A1 then_.length then_) (hc0 : first.length ≤ c0) (hc1 : then_.length ≤ c1)
    (hz0 : ∀ r ∈ first, r.size ≤ 140737488351232) (hz1 : ∀ r ∈ then_, r.size ≤ 140737488351232) :
    Calls Try.prog 7 #[.slice A0 first.length c0, .slice A1 then_.length c1] w fun e w' => e = .returned (.bool true) ∧ Below w.heap.size w w' := by
  have hm0 := hC0.2.1
  have hm1 := hC1.2.1
  have hfw0 := few_calls A0 c0 first w hC0 hc0 hz0
  cases hf0 : fewB first with
  | false =>
    rw [hf0] at hfw0
    go_enter Try.func7, Try.ntmps7
    go_wp2_with fail
    refine hfw0.mono ?_
    rintro e w1 ⟨rfl, k1⟩
    go_wp2_with fail
    refine (awake17_calls _).mono ?_
    rintro e w2 ⟨rfl, b2⟩
    go_wp2
    go_ret
    exact ⟨rfl, (k1.trans (Fr.of_below b2)).to_below (fun _ _ => id)⟩
  | true =>
    rw [hf0] at hfw0
    cases hf1 : fewB then_ with
    | false =>
      go_enter Try.func7, Try.ntmps7
      go_wp2_with fail
      refine hfw0.mono ?_
      rintro e w1 ⟨rfl, k1⟩
      have hfw1 := few_calls A1 c1 then_ w1 (C_fr flat_string hC1 k1 (fun _ _ => id)) hc1 hz1
      rw [hf1] at hfw1
      go_wp2_with fail
      refine hfw1.mono ?_
      rintro e w2 ⟨rfl, k2⟩
      go_wp2_with fail
      refine (awake17_calls _).mono ?_
      rintro e w3 ⟨rfl, b3⟩
      go_wp2
      go_ret
      exact ⟨rfl, ((k1.trans k2).trans (Fr.of_below b3)).to_below (fun _ _ => id)⟩
    | true =>
      have Hf0 := Lib.hid hf0
      have Hf1 := Lib.hid hf1
      have hl0 : first.length ≤ 2000 := by
        have h1 := of_decide_eq_true hf0
        have : first.length ≤ sumT first := by unfold sumT; exact len_le_sum first
        omega
      have hl1 : then_.length ≤ 2000 := by
        have h1 := of_decide_eq_true hf1
        have : then_.length ≤ sumT then_ := by unfold sumT; exact len_le_sum then_
        omega
      go_enter Try.func7, Try.ntmps7
      go_wp2_with fail
      refine hfw0.mono ?_
      rintro e w1 ⟨rfl, k1⟩
      have hfw1 := few_calls A1 c1 then_ w1 (C_fr flat_string hC1 k1 (fun _ _ => id)) hc1 hz1
      rw [hf1] at hfw1
      go_wp2_with fail
      refine hfw1.mono ?_
      rintro e w2 ⟨rfl, k2⟩
      have kk := k1.trans k2
      have hC0' := C_fr flat_string hC0 kk (fun _ _ => id)
      have hC1' := C_fr flat_string hC1 kk (fun _ _ => id)
      clear hfw0 hfw1 hC0 hC1 k1 k2 hf0 hf1
      go_wp2_with fail
      go_loopg [5] (first.length + then_.length) (fun kq v5 wr => ∃ i : Nat, kq + i = first.length + then_.length ∧ v5 = .int .i64 i ∧ w2 = wr ∧ Hid (∀ r ∈ (first ++ then_).take i, r.size ≠ 0))
      case atStart => exact ⟨0, rfl, rfl, rfl, Lib.hid (fun r hr => by simp at hr)⟩
      case round =>
        obtain ⟨i, hi, rfl, rfl, hall⟩ := hrel
        by_cases h0 : i < first.length
        · have h0I : (i : Int) < (first.length : Int) := by omega
          have h0N : 0 ≤ (i : Int) := by omega
          have hsumI : (i : Int) < (first.length : Int) + (then_.length : Int) := by omega
          obtain ⟨ad, hAd, hcell⟩ := Kd.at_string hC0' (i : Int) h0N h0I
          rw [Int.toNat_natCast, rdOf_get h0] at hcell
          obtain ⟨r, hr⟩ : ∃ r, r = first[i] := ⟨_, rfl⟩
          rw [← hr] at hcell
          have hnext : r.size ≠ 0 → ∀ r ∈ (first ++ then_).take (i + 1), r.size ≠ 0 := fun hx => take_all (by rw [List.length_append]; omega) _ hall.out (by rw [List.getElem_append_left h0, ← hr]; exact hx)
          have Hnext := Lib.hid hnext
          clear hr hnext hall
          subst hAd
          by_cases he : r.size = 0
          · obtain rfl : r = ByteArray.empty := ByteArray.size_eq_zero_iff.1 he
            clear he
            go_wp2_with fail
            refine (awake17_calls _).mono ?_
            rintro e w3 ⟨rfl, b3⟩
            go_wp2
            go_ret
            exact ⟨rfl, (kk.trans (Fr.of_below b3)).to_below (fun _ _ => id)⟩
          · have hn2 := toList_ne he
            have hn1 : r.toList.isEmpty = false := by
              cases h : r.toList with
              | nil => exact absurd h hn2
              | cons => rfl
            have Hn := Lib.hid (Hnext.out he)
            clear Hnext he
            go_wp2
            go_roundg (first.length + then_.length - (i + 1))
            case measure => omega
            case rel => exact ⟨i + 1, by omega, by go_num, rfl, Hn⟩
        · by_cases h1 : i < first.length + then_.length
          · have h0I : ¬ ((i : Int) < (first.length : Int)) := by omega
            have hsumI : (i : Int) < (first.length : Int) + (then_.length : Int) := by omega
            have hge : (first.length : Int) ≤ (i : Int) := by omega
            have hj : i - first.length < then_.length := by omega
            have hjI : ((i : Int) - (first.length : Int)) = ((i - first.length : Nat) : Int) := by omega
            obtain ⟨ad, hAd, hcell⟩ := Kd.at_string hC1' ((i - first.length : Nat) : Int) (by omega) (by omega)
            rw [Int.toNat_natCast, rdOf_get hj] at hcell
            obtain ⟨r, hr⟩ : ∃ r, r = then_[i - first.length] := ⟨_, rfl⟩
            rw [← hr] at hcell
            have hnext : r.size ≠ 0 → ∀ r ∈ (first ++ then_).take (i + 1), r.size ≠ 0 := fun hx => take_all (by rw [List.length_append]; omega) _ hall.out (by rw [List.getElem_append_right (by omega), ← hr]; exact hx)
            have Hnext := Lib.hid hnext
            clear hr hnext hall
            subst hAd
            have hjN : (0 : Int) ≤ (i : Int) - (first.length : Int) := by omega
            have hjL : (i : Int) - (first.length : Int) < (then_.length : Int) := by omega
            have HjI := Lib.hid hjI; clear hjI
            by_cases he : r.size = 0
            · obtain rfl : r = ByteArray.empty := ByteArray.size_eq_zero_iff.1 he
              clear he
              go_wp2_with fail
              refine (awake17_calls _).mono ?_
              rintro e w3 ⟨rfl, b3⟩
              go_wp2
              go_ret
              exact ⟨rfl, (kk.trans (Fr.of_below b3)).to_below (fun _ _ => id)⟩
            · have hn2 := toList_ne he
              have hn1 : r.toList.isEmpty = false := by
                cases h : r.toList with
                | nil => exact absurd h hn2
                | cons => rfl
              have Hn := Lib.hid (Hnext.out he)
              clear Hnext he
              go_wp2
              go_roundg (first.length + then_.length - (i + 1))
              case measure => omega
              case rel => exact ⟨i + 1, by omega, by go_num, rfl, Hn⟩
          · have hsumI : ¬ ((i : Int) < (first.length : Int) + (then_.length : Int)) := by omega
            have hnz : ∀ r ∈ first ++ then_, r.size ≠ 0 := by
              have := hall.out
              rw [List.take_of_length_le (by rw [List.length_append]; omega)] at this
              exact this
            have hg0 : goods first := few_goods Hf0.out (fun r hr => hnz r (by simp [hr]))
            have hg1 : goods then_ := few_goods Hf1.out (fun r hr => hnz r (by simp [hr]))
            have Hg := Lib.hid (And.intro hg0 hg1)
            clear hall hnz hg0 hg1 h0 h1
            go_wp2_with fail
            refine (new_calls _ 1048576 (by decide) (by decide)).mono ?_
            rintro e w3 ⟨rfl, h0, k0, hz⟩
            obtain ⟨g, hg⟩ : ∃ g, g = w2.heap.size + 1 := ⟨_, rfl⟩
            obtain ⟨m, hm⟩ : ∃ m, m = w2.heap.size := ⟨_, rfl⟩
            rw [← hg] at h0 ⊢
            rw [← hm] at h0
            have s0 : Since w2 w3 g m (Dk.new 1048576) := ⟨h0, by omega, k0⟩
            clear hz hg hm h0 k0
            have gd0 : Good (Dk.new 1048576) := good_new' (by decide) (by decide)
            have st0 := st_new 1048576
            have hn0 := newest_empty st0
            have ho0 := openT_none st0 gd0 hn0
            have hop := open_ok s0.disk gd0 rfl ho0.1
            rw [hn0] at hop
            have st1 := ho0.2
            have gd1 := gd0.openT
            obtain ⟨d1, hd1⟩ : ∃ d1, d1 = (openT (Dk.new 1048576)).2 := ⟨_, rfl⟩
            rw [← hd1] at hop st1 gd1
            clear hd1 ho0 hn0 st0 gd0
            go_wp2_with fail
            refine hop.mono ?_
            rintro e w4 ⟨b, A, c, rfl, on1, hc, hC, hb, hA, k1⟩
            clear hop
            have s1 := Sn.first s0 on1 hb k1
            have hl0 : (newOwn (none : Option Own)).length = 0 := rfl
            clear on1 hC hA k1 hb s0
            have hC0a := C_fr flat_string hC0' s1.fr (fun _ _ => id)
            have hzl0 : (framesL first).length ≤ 1099511627776 := by have := few_len Hf0.out; omega
            have hzl1 : (framesL then_).length ≤ 1099511627776 := by have := few_len Hf1.out; omega
            -- Append(first...)
            obtain ⟨d2, bg, fs2, hE2, hD2, hL2, st2, hfs2, hby2⟩ : ∃ (d2 : Dk) (bg : Bool) (fs2 : List Fl), (⟨0, false, false⟩ : Lg).appE d1 first = 0 ∧ (⟨0, false, false⟩ : Lg).appD d1 first = d2 ∧ (⟨0, false, false⟩ : Lg).app d1 first = ⟨0, bg, false⟩ ∧ St d2 fs2 1048576 0 false ∧ (∀ x ∈ fs2, x.k = 0) ∧ bytes fs2 ≤ 16012 := by
              cases hff : first with
              | nil =>
                have hgo : (⟨0, false, false⟩ : Lg).goes [] = false := by unfold Lg.goes; simp
                have hw0 : (⟨0, false, false⟩ : Lg).wrong [] = 0 := wrong_good (fun r hr => by cases hr)
                exact ⟨d1, false, [], by unfold Lg.appE; rw [hgo]; exact hw0, by unfold Lg.appD; rw [hgo]; rfl, by unfold Lg.app; rw [hgo]; rfl, st1, (fun x hx => by cases hx), by decide⟩
              | cons x xs =>
                rw [← hff]
                have hfl : (framesOf first).size ≤ 16000 := by rw [framesOf_size]; exact few_len Hf0.out
                have hap := app_none (F := 0) st1 (by decide) (by decide) Hg.out.1 (by rw [hff]; simp) (by omega)
                refine ⟨_, true, _, hap.1, rfl, hap.2.2, hap.2.1, ?_, ?_⟩
                · intro y hy
                  rw [List.mem_singleton.1 hy]
                · simp only [bytes, List.map_cons, List.map_nil, List.sum_cons, List.sum_nil]
                  rw [logS_size]
                  omega
            have gd2 := gd1.lapp ⟨0, false, false⟩ first
            have hcall := lappend_calls (show On w4 g m b d1 ⟨0, false, false⟩ from s1.on) gd1.ok' A0 c0 first hC0a hzl0
            rw [hE2, hD2, hL2] at hcall
            rw [hD2] at gd2
            clear hE2 hD2 hL2
            go_wp2_with fail
            refine hcall.mono ?_
            rintro e w5 ⟨rfl, on2, k2⟩
            have s2 := s1.next on2 k2
            clear hcall on2 k2 hC0a s1 st1 gd1
            -- Compact(then...)
            have hC1a := C_fr flat_string hC1' s2.fr (fun _ _ => id)
            have hfl1 : (framesOf then_).size ≤ 16000 := by rw [framesOf_size]; exact few_len Hf1.out
            have hco := (comp_St (F := 0) (bg := bg) st2 (by decide) (by decide) Hg.out.2 hfs2 (by omega)).2.2 (by decide) (by decide) (by decide)
            have gd3 := gd2.lcomp ⟨0, bg, false⟩ then_
            have hcall := lcompact_calls s2.on gd2 A1 c1 then_ hC1a hzl1 ⟨Int.le_refl 0, (by decide : (0 : Int) ≤ 65536)⟩
            rw [hco.1, hco.2.2] at hcall
            have st3 := hco.2.1
            obtain ⟨d3, hd3⟩ : ∃ d3, d3 = ((⟨0, bg, false⟩ : Lg).comp d2 then_).d := ⟨_, rfl⟩
            rw [← hd3] at hcall st3 gd3
            have st3' : St d3 [⟨1, logS then_.length then_, (logS then_.length then_).size⟩] 1048576 0 false := st3
            clear hd3 hco st3 st2 gd2 hfs2 hby2
            go_wp2_with fail
            refine hcall.mono ?_
            rintro e w6 ⟨rfl, on3, k3⟩
            have s3 := s2.next on3 k3
            clear hcall on3 k3 hC1a s2
            have hC1b := C_fr flat_string hC1' s3.fr (fun _ _ => id)
            -- n
            have Hfl := Lib.hid hfl1
            clear hfl1 hzl0 hzl1 hl0
            go_wp2_with fail
            go_loopg [11, 12] then_.length (fun kq v11 v12 wr => ∃ i : Nat, kq + i = then_.length ∧ v12 = .int .i64 i ∧ v11 = .int .i64 ((12 + (framesOf (then_.take i)).size : Nat) : Int) ∧ w6 = wr)
            case atStart => exact ⟨0, rfl, rfl, rfl, rfl⟩
            case round =>
              obtain ⟨i, hi, rfl, rfl, rfl⟩ := hrel
              by_cases hlt : i < then_.length
              · have hltI : (i : Int) < (then_.length : Int) := by omega
                obtain ⟨ad, hAd, hcell⟩ := Kd.at_string hC1b (i : Int) (by omega) hltI
                rw [Int.toNat_natCast, rdOf_get hlt] at hcell
                obtain ⟨r, hr⟩ : ∃ r, r = then_[i] := ⟨_, rfl⟩
                rw [← hr] at hcell
                have hstep : (framesOf (then_.take (i + 1))).size = (framesOf (then_.take i)).size + (8 + r.size) := by
                  rw [List.take_succ_eq_append_getElem hlt, ← hr, framesOf_append, ByteArray.size_append, framesOf_cons, framesOf_nil, ByteArray.append_empty, frame_size]
                have hpre : (framesOf (then_.take (i + 1))).size ≤ 16000 := by
                  have h1 := framesL_prefix then_ (i + 1)
                  rw [← framesOf_size, ← framesOf_size] at h1
                  have h2 := Hfl.out
                  omega
                obtain ⟨q, hq⟩ : ∃ q, q = (framesOf (then_.take i)).size := ⟨_, rfl⟩
                rw [← hq] at hstep ⊢
                have hqb : (q : Int) + (8 + r.size) ≤ 16000 := by omega
                have Hs := Lib.hid hstep
                clear hr hstep hpre hq
                subst hAd
                go_wp2
                go_roundg (then_.length - (i + 1))
                case measure => omega
                case rel =>
                  refine ⟨i + 1, by omega, by go_num, ?_, rfl⟩
                  rw [Hs.out]
                  exact congrArg (Value.int .i64) (by omega)
              · have hge : ¬ ((i : Int) < (then_.length : Int)) := by omega
                have hil : then_.take i = then_ := List.take_of_length_le (by omega)
                rw [hil]
                have hgo1 := Hg.out.2
                -- Open
                have hwh : holdsR (logS then_.length then_) = some (then_, ((logS then_.length then_).size : Int)) := holds_whole _ (by omega) (by omega) then_ hgo1 (Int.le_refl _)
                have hn3 : newestD d3 = some ⟨1, then_, ((logS then_.length then_).size : Int)⟩ := by rw [newest_one st3' (by decide), hwh]; rfl
                have ho3 := openT_some st3' gd3 hn3
                have hop := open_ok s3.on.disk gd3 st3'.dead ho3.1
                rw [hn3] at hop
                have st4 := ho3.2.1
                have gd4 := gd3.openT
                obtain ⟨d4, hd4⟩ : ∃ d4, d4 = (openT d3).2 := ⟨_, rfl⟩
                rw [← hd4] at hop st4 gd4
                have hby : bytes d4.files = 12 + (framesOf then_).size := by
                  rw [st4.files]
                  simp only [bytes, List.map_cons, List.map_nil, List.sum_cons, List.sum_nil]
                  have h1 := size_cutS (s := sAt [⟨1, logS then_.length then_, ((logS then_.length then_).size : Int)⟩] 1) (n := ((logS then_.length then_).size : Int)) (by omega) (by rw [sAt_one]; exact Int.le_refl _)
                  have h2 := logS_size (then_.length : Int) then_
                  omega
                have hnum : numbers d4.files = [1] := by rw [st4.files, numbers_one]
                clear hd4 ho3 hn3 st3' gd3 hwh hgo1 hil
                have hop' : Calls Try.prog 41 #[.pointer (some ⟨g, 0, none⟩)] w6 fun e w' => ∃ (b : Nat) (A : Option Addr) (c : Nat), e = .returned (.tuple #[.pointer (some ⟨b, 0, none⟩), .slice A then_.length c, .int .i64 0]) ∧
                  On w' g m b d4 ⟨1, true, false⟩ ∧ then_.length ≤ c ∧ Kd.string.C w' A then_.length then_ ∧ w6.heap.size ≤ b ∧ (∀ a, A = some a → w6.heap.size ≤ a.block ∧ a.block ≠ b) ∧ Fr (Two g m) w6 w' := hop
                clear hop
                go_wp2_with fail
                refine hop'.mono ?_
                rintro e w7 ⟨b7, A7, c7, rfl, on7, hc7, hC7, hb7, hA7, k7⟩
                have s7 := s3.again on7 hb7 k7
                clear hop' on7 hA7 k7 hb7 s3 hC1b
                have hC1c := C_fr flat_string hC1' s7.fr (fun _ _ => id)
                have htx := texts_calls A7 c7 then_ A1 c1 then_ w7 hC7 hc7 hC1c hc1
                rw [decide_eq_true (rfl : then_ = then_)] at htx
                go_wp2_with fail
                refine htx.mono ?_
                rintro e w8 ⟨rfl, k8⟩
                have s8 := s7.keep k8
                clear htx hC7 hC1c k8 s7
                have hsize := size_calls s8.on.disk (by rw [hby]; have := Hfl.out; omega)
                rw [hby] at hsize
                go_wp2_with fail
                refine hsize.mono ?_
                rintro e w9 ⟨rfl, h9, k9⟩
                have s9 := s8.keep k9
                clear hsize h9 k9 s8
                have hfi := files_calls s9.on.disk gd4.ok'
                rw [hnum] at hfi
                have hl1 : (([1] : List Int).length : Int) = 1 := rfl
                go_wp2_with fail
                refine hfi.mono ?_
                rintro e w10 ⟨A8, c8, rfl, hc8, hC8, hA8, k8⟩
                have s10 := s9.keep k8
                clear hfi hC8 hA8
                go_wp2_with fail
                refine (awake17_calls _).mono ?_
                rintro e w11 ⟨rfl, b11⟩
                go_wp2
                go_ret
                exact ⟨rfl, ((kk.trans s10.fr).trans (Fr.of_below b11)).to_below (fun _ _ => id)⟩

theorem seglogKeeps_row (A0 : Option Addr) (c0 : Nat) (first : List ByteArray) {w : World} (hC0 : Kd.string.C w A0 first.length first) (hc0 : first.length ≤ c0) (hz0 : first.length * Try.prog.bytesOf 9 ≤ 140737488351232 ∧ ∀ r ∈ first, r.size ≤ 140737488351232)
    (A1 : Option Addr) (c1 : Nat) (then_ : List ByteArray) (hC1 : Kd.string.C w A1 then_.length then_) (hc1 : then_.length ≤ c1) (hz1 : then_.length * Try.prog.bytesOf 9 ≤ 140737488351232 ∧ ∀ r ∈ then_, r.size ≤ 140737488351232) :
    Calls Try.prog 7 #[.slice A0 first.length c0, .slice A1 then_.length c1] w fun e w' => e = .returned (.bool true) ∧ Below w.heap.size w w' :=
  keeps_tail A0 c0 first A1 c1 then_ w hC0 hC1 hc0 hc1 hz0.2 hz1.2

end Go.Proofs.Ytljfagagopaidaa
