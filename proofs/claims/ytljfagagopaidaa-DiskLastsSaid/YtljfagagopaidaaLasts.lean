/- DiskLasts: for any texts that are appended, some synced, and any keep the law's function returns true. -/
import Derived.Test.YtljfagagopaidaaDw
namespace Go.Proofs.Ytljfagagopaidaa
open Go.RowKit Go.Proofs.YtljfagagopaidaaW.PrintWords
set_option linter.unusedSimpArgs false
set_option linter.unusedVariables false
set_option maxRecDepth 100000

/-- The law's disk: what is synced, and what stands behind it. -/
def lk (S M : ByteArray) (b : Bool) (st : Int) : Dk := ⟨if b then [⟨3, S ++ M, S.size⟩] else [], 1048576, 0, false, st⟩

def emptyS : ByteArray := ⟨#[]⟩

structure LkOk (S M : ByteArray) (b : Bool) : Prop where
  size : S.size + M.size ≤ 100000
  none : b = false → S = emptyS ∧ M = emptyS

theorem lk_ok {S M : ByteArray} {b : Bool} (h : LkOk S M b) (st : Int) : (lk S M b st).Ok := by
  refine ⟨show (1048576 : Int) ≤ 16777216 by decide, show (0 : Int) ≤ 0 by decide, show (0 : Int) ≤ 9223372036854775807 by decide, ?_, ?_, ?_⟩
  · cases b with
    | false => exact .inr rfl
    | true =>
      left
      show ((bytes [⟨3, S ++ M, S.size⟩] : Nat) : Int) ≤ 1048576
      simp only [bytes, List.map_cons, List.map_nil, List.sum_cons, List.sum_nil, ByteArray.size_append]
      have := h.size
      omega
  · cases b <;> simp [lk]
  · cases b with
    | false => intro x hx; cases hx
    | true => intro x hx; simp [lk] at hx; subst hx; exact ⟨show (0 : Int) ≤ 3 by decide, show (3 : Int) < 65536 by decide⟩

theorem lk_wrong (S M : ByteArray) (b : Bool) (st : Int) : (lk S M b st).wrong 3 = 0 := rfl

theorem lk_sAt {S M : ByteArray} {b : Bool} (h : LkOk S M b) : sAt (lk S M b 0).files 3 = S ++ M := by
  cases b with
  | false =>
    obtain ⟨rfl, rfl⟩ := h.none rfl
    rfl
  | true => rfl
theorem lk_nAt {S M : ByteArray} {b : Bool} (h : LkOk S M b) : nAt (lk S M b 0).files 3 = S.size := by
  cases b with
  | false =>
    obtain ⟨rfl, rfl⟩ := h.none rfl
    rfl
  | true => rfl

theorem lk_append {S M : ByteArray} {b : Bool} (h : LkOk S M b) (st : Int) (t : ByteArray) (ht : t.size ≤ 1000) :
    (lk S M b st).appendE 3 t = 0 ∧ (lk S M b st).append 3 t = lk S (M ++ t) true (wrap64 (st + 1)) := by
  have hb : bytes (lk S M b st).files = S.size + M.size := by
    cases b with
    | false =>
      obtain ⟨rfl, rfl⟩ := h.none rfl
      rfl
    | true => simp [lk, bytes]
  have hl : ((bytes (lk S M b st).files : Nat) : Int) + t.size ≤ (lk S M b st).limit := by
    rw [hb]
    show ((S.size + M.size : Nat) : Int) + t.size ≤ 1048576
    have := h.size
    omega
  obtain ⟨e1, e2⟩ := Dk.append_goes (lk_wrong S M b st) hl
  refine ⟨by rw [e1]; rfl, ?_⟩
  rw [e2]
  have hs : sAt (lk S M b st).files 3 = S ++ M := lk_sAt h
  have hn : nAt (lk S M b st).files 3 = S.size := lk_nAt h
  rw [hs, hn, ByteArray.append_assoc]
  cases b <;> rfl

theorem lk_sync {S M : ByteArray} (st : Int) : (lk S M true st).changeE 3 = 0 ∧ (lk S M true st).sync 3 = lk (S ++ M) emptyS true (wrap64 (st + 1)) := by
  refine ⟨rfl, ?_⟩
  have : (S ++ M) ++ emptyS = S ++ M := ByteArray.append_empty
  unfold lk
  rw [this]
  rfl

theorem ext_list {a b : ByteArray} (h : a.data.toList = b.data.toList) : a = b := by
  apply ByteArray.ext
  exact Array.toList_inj.1 h
theorem list_extract (a : ByteArray) (i j : Nat) : (a.extract i j).data.toList = (a.data.toList.take j).drop i := by
  rw [ByteArray.data_extract, Array.toList_extract, List.drop_take]
theorem list_append (a b : ByteArray) : (a ++ b).data.toList = a.data.toList ++ b.data.toList := by
  rw [ByteArray.data_append, Array.toList_append]

theorem front_of {S M : ByteArray} {q : Nat} (h0 : S.size ≤ q) : ((S ++ M).extract 0 q).extract 0 S.size = S := by
  apply ext_list
  rw [list_extract, list_extract, list_append]
  have hl : S.data.toList.length = S.size := by simp
  simp only [List.drop_zero]
  rw [List.take_take, Nat.min_eq_left h0, List.take_append_of_le_length (by omega), ← hl, List.take_length]

theorem back_of {S M : ByteArray} {q : Nat} (h0 : S.size ≤ q) : ((S ++ M).extract 0 q).extract S.size q = M.extract 0 (q - S.size) := by
  apply ext_list
  rw [list_extract, list_extract, list_extract, list_append]
  have hl : S.data.toList.length = S.size := by simp
  simp only [List.drop_zero]
  rw [List.take_take, Nat.min_self, List.take_append, ← hl, List.take_of_length_le (by omega), List.drop_append_of_le_length (by omega), List.drop_length, List.nil_append]

/-- What stands behind a crash: a beginning of what was not synced. -/
theorem lk_crash {S M : ByteArray} {b : Bool} (h : LkOk S M b) (st : Int) (k : Int) (hk : -9223372036854775808 ≤ k ∧ k ≤ 9223372036854775807) :
    ∃ s : ByteArray, (lk S M b st).crash [k] = lk s emptyS b st ∧ LkOk s emptyS b ∧ S.size ≤ s.size ∧ s.size ≤ S.size + M.size ∧ s.extract 0 S.size = S ∧ s.extract S.size s.size = M.extract 0 (s.size - S.size) := by
  cases b with
  | false =>
    obtain ⟨rfl, rfl⟩ := h.none rfl
    have : numbers (lk emptyS emptyS false st).files = [] := by simp [numbers, sortZ, lk]
    refine ⟨emptyS, ?_, h, Nat.le_refl _, Nat.le_refl _, by decide, by decide⟩
    unfold Dk.crash
    rw [this]
    rfl
  | true =>
    have hn : numbers (lk S M true st).files = [3] := by simp [numbers, sortZ, lk]
    have hs : sAt (lk S M true st).files 3 = S ++ M := rfl
    have hna : nAt (lk S M true st).files 3 = S.size := rfl
    have hsz : ((S ++ M).size : Int) - S.size = M.size := by rw [ByteArray.size_append]; omega
    have hb := h.size
    by_cases hM : M.size = 0
    · have hz : ((sAt (lk S M true st).files 3).size : Int) - nAt (lk S M true st).files 3 = 0 := by rw [hs, hna, hsz]; omega
      have hMe : M = ByteArray.empty := ByteArray.size_eq_zero_iff.1 hM
      subst hMe
      rw [ByteArray.append_empty] at *
      refine ⟨S, ?_, ⟨by show S.size + 0 ≤ _; omega, fun e => by cases e⟩, Nat.le_refl _, by simp, ?_, ?_⟩
      · unfold Dk.crash
        rw [hn, crashL_skip hz]
        rfl
      · apply ext_list
        rw [list_extract, List.drop_zero, List.take_of_length_le (by simp)]
      · apply ext_list
        rw [list_extract, list_extract]
        simp
    · have hz : ((sAt (lk S M true st).files 3).size : Int) - nAt (lk S M true st).files 3 ≠ 0 := by rw [hs, hna, hsz]; omega
      have hk0 : 0 ≤ keepOf k := by unfold keepOf; split <;> omega
      have ht0 : 0 ≤ (keepOf k).tmod ((M.size : Int) + 1) := Int.tmod_nonneg _ hk0
      have ht1 : (keepOf k).tmod ((M.size : Int) + 1) < (M.size : Int) + 1 := Int.tmod_lt_of_pos _ (by omega)
      obtain ⟨q, hq⟩ : ∃ q : Nat, (q : Int) = S.size + (keepOf k).tmod ((M.size : Int) + 1) := ⟨(S.size + (keepOf k).tmod ((M.size : Int) + 1)).toNat, by omega⟩
      have hq0 : S.size ≤ q := by omega
      have hq1 : q ≤ S.size + M.size := by omega
      have hcs : cutS (S ++ M) q = (S ++ M).extract 0 q := rfl
      have hsq : ((S ++ M).extract 0 q).size = q := by rw [ByteArray.size_extract, ByteArray.size_append]; omega
      refine ⟨(S ++ M).extract 0 q, ?_, ⟨by rw [hsq]; show q + 0 ≤ _; omega, fun e => by cases e⟩, by omega, by omega, front_of hq0, by rw [hsq]; exact back_of hq0⟩
      unfold Dk.crash
      rw [hn, crashL_cut hz (q : Int) (by rw [hs, hna, hsz]; exact hq), hs, hcs]
      have he : (S ++ M).extract 0 q ++ emptyS = (S ++ M).extract 0 q := ByteArray.append_empty
      unfold lk
      rw [he, hsq]
      rfl

theorem lk_sound {S M : ByteArray} {b : Bool} (h : LkOk S M b) (st : Int) : Sound (lk S M b st).files := by
  cases b with
  | false => intro x hx; cases hx
  | true =>
    intro x hx
    simp [lk] at hx
    subst hx
    have := h.size
    simp only [ByteArray.size_append]
    omega

theorem lk_twice {s : ByteArray} {b : Bool} (h : LkOk s emptyS b) (st : Int) : (lk s emptyS b st).crash [0] = lk s emptyS b st := by
  cases b with
  | false =>
    have : numbers (lk s emptyS false st).files = [] := by simp [numbers, sortZ, lk]
    unfold Dk.crash
    rw [this]
    rfl
  | true =>
    have hn : numbers (lk s emptyS true st).files = [3] := by simp [numbers, sortZ, lk]
    have hz : ((sAt (lk s emptyS true st).files 3).size : Int) - nAt (lk s emptyS true st).files 3 = 0 := by
      show (((s ++ emptyS).size : Nat) : Int) - s.size = 0
      rw [ByteArray.size_append]
      show ((s.size + 0 : Nat) : Int) - s.size = 0
      omega
    unfold Dk.crash
    rw [hn, crashL_skip hz]
    rfl
theorem lk_read {s : ByteArray} {b : Bool} (h : LkOk s emptyS b) (st : Int) : (lk s emptyS b st).readS 3 = s := by
  have : (lk s emptyS b st).readS 3 = sAt (lk s emptyS b 0).files 3 := rfl
  rw [this, lk_sAt h]
  exact ByteArray.append_empty

theorem lk_more {S M t : ByteArray} {b : Bool} {i : Nat} (h : S.size + M.size ≤ 1000 * i) (hi : i < 100) (ht : t.size ≤ 1000) : LkOk S (M ++ t) true ∧ S.size + (M ++ t).size ≤ 1000 * (i + 1) := by
  rw [ByteArray.size_append]
  refine ⟨⟨by rw [ByteArray.size_append]; omega, fun e => by cases e⟩, by omega⟩

set_option maxHeartbeats 2000000 in
theorem diskLasts_calls (A0 : Option Addr) (c0 : Nat) (texts : List ByteArray) (A1 : Option Addr) (c1 : Nat) (syncs : List Bool) (keep : Int) (w : World) (hk : -9223372036854775808 ≤ keep ∧ keep ≤ 9223372036854775807)
    (hC0 : Kd.string.C w A0 texts.length texts) (hC1 : Kd.bool.C w A1 syncs.length syncs) :
    Calls Try.prog 3 #[.slice A0 texts.length c0, .slice A1 syncs.length c1, .int .i64 keep] w fun e w' => e = .returned (.bool true) ∧ Below w.heap.size w w' := by
  have hm0 := hC0.2.1
  have hm1 := hC1.2.1
  go_enter Try.func3, Try.ntmps3
  go_wp2_with fail
  refine (new_calls _ 1048576 (by decide) (by decide)).mono ?_
  rintro e w0 ⟨rfl, h0, k0, hz⟩
  obtain ⟨g, hg⟩ : ∃ g, g = w.heap.size + 1 := ⟨_, rfl⟩
  obtain ⟨m, hm⟩ : ∃ m, m = w.heap.size := ⟨_, rfl⟩
  rw [← hg] at h0 ⊢
  rw [← hm] at h0
  have s0 : Since w w0 g m (lk emptyS emptyS false 0) := ⟨h0, by omega, k0⟩
  clear hz hg hm h0 k0
  go_wp2_with fail
  go_loopg [9, 10, 11] 200 (fun kq v9 v10 v11 wr => ∃ (i : Nat) (S M : ByteArray) (b : Bool) (st : Int), kq + i = 200 ∧ v9 = .string S ∧ v10 = .string M ∧ v11 = .int .i64 i ∧ Since w wr g m (lk S M b st) ∧ LkOk S M b ∧ Hid (S.size + M.size ≤ 1000 * i) ∧ Hid (i ≤ 100))
  case atStart => exact ⟨0, emptyS, emptyS, false, 0, rfl, rfl, rfl, rfl, s0, ⟨by decide, fun _ => ⟨rfl, rfl⟩⟩, by show _ ≤ _; decide, by show _ ≤ _; omega⟩
  case round =>
    obtain ⟨i, S, M, b, st, hi, rfl, rfl, rfl, sj, hlk, hsz, hi100⟩ := hrel
    have hC0j := C_fr flat_string hC0 sj.fr (fun _ _ => id)
    have hC1j := C_fr flat_bool hC1 sj.fr (fun _ _ => id)
    by_cases hgo : i < texts.length ∧ i < 100
    · have hg1 : (i : Int) < (texts.length : Int) := by omega
      have hg2 : (i : Int) < 100 := by omega
      have hi1 := hgo.1
      have hi2 := hgo.2
      clear hgo
      obtain ⟨ad, hA0', hcell⟩ := Kd.at_string hC0j (i : Int) (by omega) hg1
      obtain ⟨t, ht⟩ : ∃ t, t = rdOf ByteArray.empty texts (i : Int) := ⟨_, rfl⟩
      rw [← ht, Int.toNat_natCast] at hcell
      subst hA0'
      have Ht := Lib.hid ht
      clear ht
      by_cases hlong : 1000 < t.size
      · have hl1 : (1000 : Int) < (t.size : Int) := by omega
        go_wp2_with fail
        refine (awake_calls _).mono ?_
        rintro e w5 ⟨rfl, b5⟩
        go_wp2
        go_ret
        exact ⟨rfl, (sj.fr.trans (Fr.of_below b5)).to_below (fun _ _ => id)⟩
      · have hl1 : (t.size : Int) ≤ 1000 := by omega
        have hl2 : ¬ ((1000 : Int) < (t.size : Int)) := by omega
        obtain ⟨e1, e2⟩ := lk_append hlk st t (by omega)
        obtain ⟨hlk2, hsz2⟩ := lk_more (S := S) (M := M) (t := t) (b := b) (i := i) hsz.out hi2 (by omega)
        have Hsz2 := Lib.hid hsz2; clear hsz2
        have hMt : M.size + t.size ≤ 9223372036854775807 := by have := hsz.out; omega
        go_wp2_with fail
        refine (append_calls sj.disk (lk_ok hlk st) 3 t (by omega)).mono ?_
        rintro e w2 ⟨he, h2, k2⟩
        rw [e1] at he
        rw [e2] at h2
        subst he
        have s2 := sj.next h2 k2
        have hC0k := C_fr flat_string hC0 s2.fr (fun _ _ => id)
        have hC1k := C_fr flat_bool hC1 s2.fr (fun _ _ => id)
        have hcell2 : w2.cell? (ad.add i) = some (.string t) := by
          obtain ⟨ad2, ea, hc2⟩ := Kd.at_string hC0k (i : Int) (by omega) hg1
          injection ea with ea
          subst ea
          rw [← Ht.out, Int.toNat_natCast] at hc2
          exact hc2
        clear h2 k2 e1 e2 hcell hC0j hC1j
        by_cases hsy : i < syncs.length
        · have hs1 : (i : Int) < (syncs.length : Int) := by omega
          obtain ⟨ad1, hA1', hcell3⟩ := Kd.at_bool hC1k (i : Int) (by omega) hs1
          obtain ⟨y, hy⟩ : ∃ y, y = rdOf false syncs (i : Int) := ⟨_, rfl⟩
          rw [← hy, Int.toNat_natCast] at hcell3
          subst hA1'
          clear hy
          cases y with
          | true =>
            obtain ⟨e3, e4⟩ := lk_sync (S := S) (M := M ++ t) (wrap64 (st + 1))
            have hSM : S.size + (M ++ t).size ≤ 9223372036854775807 := by have := Hsz2.out; omega
            go_wp2_with fail
            refine (sync_calls s2.disk (lk_ok hlk2 _) 3).mono ?_
            rintro e w3 ⟨he, h3, k3⟩
            rw [e3] at he
            rw [e4] at h3
            subst he
            have s3 := s2.next h3 k3
            clear h3 k3 e3 e4
            have hlk3 : LkOk (S ++ (M ++ t)) emptyS true := ⟨by rw [ByteArray.size_append]; have := hlk2.size; show _ + 0 ≤ _; omega, fun e => by cases e⟩
            have hsz3 : Hid ((S ++ (M ++ t)).size + emptyS.size ≤ 1000 * (i + 1)) := by
              show _ ≤ _
              rw [ByteArray.size_append]
              have := Hsz2.out
              show _ + 0 ≤ _
              omega
            go_wp2
            go_roundg (199 - i)
            case measure => omega
            case rel => exact ⟨i + 1, _, emptyS, true, _, by omega, rfl, rfl, by go_num, s3, hlk3, hsz3, by show _ ≤ _; omega⟩
          | false =>
            go_wp2
            go_roundg (199 - i)
            case measure => omega
            case rel => exact ⟨i + 1, S, M ++ t, true, _, by omega, rfl, rfl, by go_num, s2, hlk2, Hsz2, by show _ ≤ _; omega⟩
        · have hs1 : ¬ ((i : Int) < (syncs.length : Int)) := by omega
          go_wp2
          go_roundg (199 - i)
          case measure => omega
          case rel => exact ⟨i + 1, S, M ++ t, true, _, by omega, rfl, rfl, by go_num, s2, hlk2, Hsz2, by show _ ≤ _; omega⟩
    · have hex : (¬ ((i : Int) < (texts.length : Int))) ∨ ((i : Int) < (texts.length : Int) ∧ ¬ ((i : Int) < 100)) := by omega
      clear hgo
      obtain ⟨s, hcr, hlks, hz1, hz2, hz3, hz4⟩ := lk_crash hlk st keep hk
      rcases hex with hq | ⟨hq1, hq2⟩
      all_goals
        go_wp2_with fail
        have s3' := sj.keep ((Fr.refl _ wr).alloc (.cells #[.int .i64 keep] 3))
        refine (crash_calls s3'.disk (lk_ok hlk st) (lk_sound hlk st) _ 1 [keep] (by simp) (C_lit wr [keep] 3 (by simp)) ?_ (by intro k hk'; simp at hk'; subst hk'; exact hk)).mono ?_
        · intro a ha
          injection ha with ha
          subst ha
          exact ⟨fun e => by have := lt_blk sj.disk.blk; simp at e; omega, fun e => by have := sj.disk.map.lt; simp at e; omega⟩
        rintro e w4 ⟨rfl, h4, k4⟩
        rw [hcr] at h4
        have s4 := s3'.next h4 k4
        clear s3' h4 k4
        go_wp2_with fail
        refine (read_calls s4.disk 3).mono ?_
        rintro e w' ⟨he, rfl⟩
        rw [lk_read hlks, lk_wrong] at he
        subst he
        have hSs : S.size + M.size ≤ 100000 := hlk.size
        have hd1 : decide ((s.size : Int) < (S.size : Int)) = false := decide_eq_false (by omega)
        have hw1 : IntKind.i64.wrap ((S.size : Int) + (M.size : Int)) = (S.size : Int) + (M.size : Int) := IntWalk.i64_in _ (by omega)
        have hd2 : decide ((S.size : Int) + (M.size : Int) < (s.size : Int)) = false := decide_eq_false (by omega)
        have hw2 : IntKind.i64.wrap ((s.size : Int) - (S.size : Int)) = (s.size : Int) - (S.size : Int) := IntWalk.i64_in _ (by omega)
        obtain ⟨X, hX⟩ : ∃ X, X = M.extract 0 (s.size - S.size) := ⟨_, rfl⟩
        have hr1 : ∀ W : World, (Instr.slice 9 (.string s) none (some (.int .i64 (S.size : Int))) none).run Try.prog W = .ok (.string S) W := by
          intro W
          rw [run_slice_string_h W 9 s Try.underlying9 .i64 (S.size : Int) (by omega) (by omega), Int.toNat_natCast, hz3]
        have hr2 : ∀ W : World, (Instr.slice 9 (.string s) (some (.int .i64 (S.size : Int))) none none).run Try.prog W = .ok (.string X) W := by
          intro W
          rw [run_slice_string_l W 9 s Try.underlying9 .i64 (S.size : Int) (by omega) (by omega), Int.toNat_natCast, hz4, hX]
        have hr3 : ∀ W : World, (Instr.slice 9 (.string M) none (some (.int .i64 ((s.size : Int) - (S.size : Int)))) none).run Try.prog W = .ok (.string X) W := by
          intro W
          have : ((s.size : Int) - (S.size : Int)).toNat = s.size - S.size := by omega
          rw [run_slice_string_h W 9 M Try.underlying9 .i64 ((s.size : Int) - (S.size : Int)) (by omega) (by omega), this, hX]
        clear hX hz3 hz4
        go_wp2_with fail
        go_quiet (fail)
        go_wp2_with fail
        have s4' : ∀ n, Since w ((w4.drewN n).alloc (.cells #[.int .i64 0] 3)) g m (lk s emptyS b st) := fun n => (s4.keep ((Fr.refl (fun _ => False) w4).drewN n)).keep ((Fr.refl _ _).alloc (.cells #[.int .i64 0] 3))
        refine (crash_calls (s4' _).disk (lk_ok hlks st) (lk_sound hlks st) _ 1 [0] (by simp) (C_lit _ [0] 3 (by simp)) ?_ (by intro k hk'; simp at hk'; subst hk'; decide)).mono ?_
        · intro a ha
          injection ha with ha
          subst ha
          exact ⟨fun e => by have := lt_blk s4.disk.blk; simp at e; omega, fun e => by have := s4.disk.map.lt; simp at e; omega⟩
        rintro e w6 ⟨rfl, h6, k6⟩
        rw [lk_twice hlks] at h6
        have s6 := (s4' _).next h6 k6
        clear s4' h6 k6
        go_wp2_with fail
        refine (read_calls s6.disk 3).mono ?_
        rintro e w' ⟨he, rfl⟩
        rw [lk_read hlks, lk_wrong] at he
        subst he
        go_wp2_with fail
        refine (awake_calls _).mono ?_
        rintro e w7 ⟨rfl, b7⟩
        go_wp2
        go_ret
        exact ⟨rfl, (s6.fr.trans (Fr.of_below b7)).to_below (fun _ _ => id)⟩
end Go.Proofs.Ytljfagagopaidaa
