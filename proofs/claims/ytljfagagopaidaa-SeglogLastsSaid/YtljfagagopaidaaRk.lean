/- The document's disk: Crash, walked. -/
import Derived.Test.YtljfagagopaidaaRc
import Derived.Test.YtljfagagopaidaaCr
namespace Go.Proofs.Ytljfagagopaidaa
open Go.RowKit Go.Proofs.YtljfagagopaidaaW.PrintWords
set_option linter.unusedSimpArgs false
set_option linter.unusedVariables false
set_option maxRecDepth 100000

def cutQ (x : Fl) (k : Int) : Int := x.n + (keepOf k).tmod ((x.s.size : Int) - x.n + 1)
def rcl : List Int → List Fl → List Fl
  | _, [] => []
  | ks, x :: xs => if (x.s.size : Int) - x.n = 0 then x :: rcl ks xs else ⟨x.k, cutS x.s (cutQ x (ks.headD 0)), cutQ x (ks.headD 0)⟩ :: rcl ks.tail xs

theorem rcl_skip {x : Fl} {ks : List Int} {xs : List Fl} (h : (x.s.size : Int) - x.n = 0) : rcl ks (x :: xs) = x :: rcl ks xs := by
  show (if _ then _ else _) = _
  rw [if_pos h]
theorem rcl_cut {x : Fl} {ks : List Int} {xs : List Fl} (h : ¬ (x.s.size : Int) - x.n = 0) : rcl ks (x :: xs) = ⟨x.k, cutS x.s (cutQ x (ks.headD 0)), cutQ x (ks.headD 0)⟩ :: rcl ks.tail xs := by
  show (if _ then _ else _) = _
  rw [if_neg h]

theorem drop_head {ks : List Int} {j : Nat} : (ks.drop j).headD 0 = ks.getD j 0 ∧ (ks.drop j).tail = ks.drop (j + 1) := by
  constructor
  · rw [List.headD_eq_head?_getD, List.head?_drop, List.getD_eq_getElem?_getD]
  · rw [List.tail_drop]

/-- A file is cut by a crash: its bytes, then how many of them are synced. -/
theorem ref_two {w : World} {base g : Nat} {ad : Addr} {n c : Nat} {d : Dk} (h : RefAt w base g (.slice (some ad) n c) d) {i : Nat} {x : Fl} (hx : d.files[i]? = some x) (s : ByteArray) (q : Int) (m : Nat) :
    RefAt (((w.drewN m).setCell ⟨(ad.add (i * 3)).block, (ad.add (i * 3)).off + 1, none⟩ (.string s)).setCell ⟨(ad.add (i * 3)).block, (ad.add (i * 3)).off + 2, none⟩ (.int .i64 q)).drew base g (.slice (some ad) n c) { d with files := d.files.set i ⟨x.k, s, q⟩ } ∧
      Fr (RefS w base) w (((w.drewN m).setCell ⟨(ad.add (i * 3)).block, (ad.add (i * 3)).off + 1, none⟩ (.string s)).setCell ⟨(ad.add (i * 3)).block, (ad.add (i * 3)).off + 2, none⟩ (.int .i64 q)).drew := by
  have hput := (h.drewN m).put hx ⟨x.k, s, x.n⟩ rfl 1 (by decide) (.string s) rfl
  have hx4 : (d.files.set i ⟨x.k, s, x.n⟩)[i]? = some ⟨x.k, s, x.n⟩ := List.getElem?_set_self (List.getElem?_eq_some_iff.1 hx).1
  have hput2 := hput.1.put hx4 ⟨x.k, s, q⟩ rfl 2 (by decide) (.int .i64 q) rfl
  refine ⟨?_, ?_⟩
  · have := hput2.1
    rw [show ({ d with files := d.files.set i ⟨x.k, s, x.n⟩ } : Dk).files = d.files.set i ⟨x.k, s, x.n⟩ from rfl, List.set_set] at this
    exact this.drew
  · exact (ref_then ((Fr.refl (RefS w base) w).drewN m) (ref_then ((h.drewN m).put_fr hx 1 (.string s)) (hput.1.put_fr hx4 2 (.int .i64 q)))).drew

set_option maxHeartbeats 4000000 in
theorem rcrash_calls {w : World} {base g : Nat} {v : Value} {d : Dk} (h : RefAt w base g v d) (hs : Sound d.files) (A0 : Option Addr) (c0 : Nat) (ks : List Int) (hk : (Kd.int .i64).C w A0 ks.length ks) (hA : ks ≠ [] → ∀ a, A0 = some a → a.block < base) (hkb : ∀ k ∈ ks, -9223372036854775808 ≤ k ∧ k ≤ 9223372036854775807) :
    Calls Try.prog 29 #[.pointer (some ⟨g, 0, none⟩), .slice A0 ks.length c0] w fun e w' => e = .returned (.tuple #[]) ∧ ∃ v', RefAt w' base g v' { d with files := rcl ks d.files, dead := false, armed := 0 } ∧ Fr (RefS w base) w w' := by
  obtain ⟨A, c, rfl⟩ := h.slice
  have hfew := h.few
  have hmax := hk.2.1
  go_enter Try.func29, Try.ntmps29
  go_wp2
  go_loopg [4, 5] d.files.length (fun kq v4 v5 wr => ∃ (i j : Nat) (pre : List Fl), kq + i = d.files.length ∧ v4 = .int .i64 j ∧ v5 = .int .i64 i ∧ Hid (pre.length = i) ∧ Hid (j ≤ i) ∧ RefAt wr base g (.slice A d.files.length c) { d with files := pre ++ d.files.drop i } ∧ Fr (RefS w base) w wr ∧ Hid (pre ++ rcl (ks.drop j) (d.files.drop i) = rcl ks d.files))
  case atStart => exact ⟨0, 0, [], rfl, rfl, rfl, rfl, Nat.le_refl _, h, Fr.refl _ w, rfl⟩
  case round =>
    obtain ⟨i, j, pre, hi, rfl, rfl, hpl, hji, hr, kr, hfin⟩ := hrel
    have c00 := hr.c0
    have c02 := hr.c2
    have c03 := hr.c3
    have hf2 := free_blk hr.blk 2
    have hf3 := free_blk hr.blk 3
    have hkr := C_fr0 (flat_int _) hk kr (fun hne a ha hS => by have := hA hne a ha; have := hS.1; omega)
    rcases Nat.lt_or_ge i d.files.length with hlt | hge
    · obtain ⟨x, hx⟩ : ∃ x, d.files[i]? = some x := ⟨_, List.getElem?_eq_getElem hlt⟩
      have hdrop : d.files.drop i = x :: d.files.drop (i + 1) := by
        rw [List.drop_eq_getElem_cons hlt]
        rw [List.getElem?_eq_getElem hlt] at hx
        injection hx with hx
        rw [hx]
      have hxD : (pre ++ d.files.drop i)[i]? = some x := by
        rw [List.getElem?_append_right (by rw [hpl.out]; exact Nat.le_refl _), hpl.out, Nat.sub_self, hdrop]
        rfl
      obtain ⟨ad, rfl, hab, _, k0, k1, k2, kf, had⟩ := hr.file hxD
      have kf1 := kf ((ad.add (i * 3)).off + 1)
      have kf2 := kf ((ad.add (i * 3)).off + 2)
      have hne := hr.apart hxD
      have hne2 := hne.symm
      obtain ⟨hn0, hn1, hn2⟩ := hs x (List.mem_of_getElem? hx)
      rw [hdrop] at hfin
      have Hx := Lib.hid hx; have HxD := Lib.hid hxD; have Hdrop := Lib.hid hdrop
      clear hx hxD hdrop kf
      have hl2 : (i : Int) < (d.files.length : Int) := by omega
      have hw1 : IntKind.i64.wrap ((x.s.size : Int) - x.n) = (x.s.size : Int) - x.n := IntWalk.i64_in _ (by omega)
      by_cases hz : (x.s.size : Int) - x.n = 0
      · have hz1 : (((x.s.size : Int) - x.n) == 0) = true := by rw [hz]; rfl
        have Hz := Lib.hid hz; clear hz
        go_wp2_with fail
        go_quiet (fail)
        go_wp2_with fail
        go_roundg (d.files.length - (i + 1))
        case measure => omega
        case rel =>
          refine ⟨i + 1, j, pre ++ [x], by omega, rfl, by go_num, by show (pre ++ [x]).length = i + 1; rw [List.length_append, hpl.out]; rfl, by show j ≤ i + 1; have := hji.out; omega, ?_, kr.drewN _, ?_⟩
          · have := hr.drewN nq
            rw [Hdrop.out] at this
            rw [List.append_assoc]
            exact this
          · show pre ++ [x] ++ rcl (ks.drop j) (d.files.drop (i + 1)) = _
            rw [← hfin.out, rcl_skip Hz.out, List.append_assoc]
            rfl
      · have hz1 : (((x.s.size : Int) - x.n) == 0) = false := by rw [beq_eq_false_iff_ne]; exact hz
        have hji' := hji.out
        have hj63 : (j : Int) + 1 ≤ 9223372036854775807 := by omega
        rcases Nat.lt_or_ge j ks.length with hjl | hjl
        · obtain ⟨ak, hAk, hcj⟩ := Kd.at_int hkr (j : Int) (by omega) (by omega)
          obtain ⟨k0', hk0'⟩ : ∃ k0', k0' = rd ks (j : Int) := ⟨_, rfl⟩
          rw [← hk0', Int.toNat_natCast] at hcj
          have hjl1 : (j : Int) < (ks.length : Int) := by omega
          subst hAk
          have hk0b : -9223372036854775808 ≤ k0' ∧ k0' ≤ 9223372036854775807 := by
            rw [hk0']
            unfold rd
            rw [Int.toNat_natCast, List.getD_eq_getElem?_getD, List.getElem?_eq_getElem hjl]
            exact hkb _ (List.getElem_mem hjl)
          have Hk0' := Lib.hid hk0'; clear hk0'
          have hjw : IntKind.i64.wrap ((j : Int) + 1) = (j : Int) + 1 := IntWalk.i64_in _ (by omega)
          obtain ⟨D, hD⟩ : ∃ D, D = (x.s.size : Int) - x.n + 1 := ⟨_, rfl⟩
          have hwr : IntKind.i64.wrap ((x.s.size : Int) - x.n + 1) = D := (IntWalk.i64_in _ (by omega)).trans hD.symm
          have hDp : 0 < D := by omega
          have hD0 : ¬ D = 0 := by omega
          have hkp0 : 0 ≤ keepOf k0' := by unfold keepOf; split <;> omega
          have hkp1 : keepOf k0' ≤ 9223372036854775807 := by unfold keepOf; split <;> omega
          have ht0 : 0 ≤ (keepOf k0').tmod D := Int.tmod_nonneg _ hkp0
          have ht1 : (keepOf k0').tmod D < D := Int.tmod_lt_of_pos _ hDp
          obtain ⟨q, hq⟩ : ∃ q, q = x.n + (keepOf k0').tmod D := ⟨_, rfl⟩
          have hq0 : 0 ≤ q := by omega
          have hq1 : q ≤ (x.s.size : Int) := by omega
          have hwt : IntKind.i64.wrap ((keepOf k0').tmod D) = (keepOf k0').tmod D := IntWalk.i64_in _ (by omega)
          have hwq : IntKind.i64.wrap (x.n + (keepOf k0').tmod D) = q := (IntWalk.i64_in _ (by omega)).trans hq.symm
          have hcs : ∀ W : World, (Instr.slice 9 (.string x.s) none (some (.int .i64 q)) none).run Try.prog W = .ok (.string (cutS x.s q)) W := fun W => run_slice_string_h W 9 _ Try.underlying9 .i64 q hq0 hq1
          have hcz : ((cutS x.s q).size : Int) = q := size_cutS hq0 hq1
          have hqc : cutQ x ((ks.drop j).headD 0) = q := by
            unfold cutQ
            rw [drop_head.1, hq, hD]
            have : ks.getD j 0 = k0' := by rw [Hk0'.out]; rfl
            rw [this]
          have Hf := Lib.hid (And.intro hn0 (And.intro hn1 (And.intro hn2 (And.intro hz (And.intro hcz hqc)))))
          rcases Int.lt_or_le k0' 0 with hkn | hkn
          · have hko : keepOf k0' = -(k0' + 1) := by unfold keepOf; rw [if_pos hkn]; omega
            have hd0 : decide (k0' < 0) = true := decide_eq_true hkn
            have hwk : IntKind.i64.wrap (k0' + 1) = k0' + 1 := IntWalk.i64_in _ (by omega)
            have hwm : IntKind.i64.wrap (-(k0' + 1)) = keepOf k0' := (IntWalk.i64_in _ (by omega)).trans hko.symm
            clear hn0 hn1 hn2 hz hcz hqc hmax hfew hji' hj63 hjl hk0b hD hDp hkp0 hkp1 ht0 ht1 hq hkn hko hq0 hq1
            go_wp2_with fail
            go_quiet (fail)
            go_wp2_with fail
            refine wp_tail 29 (by kernel_rfl) (by kernel_rfl) ?_
            simp only [List.take_succ_cons, List.take_zero, List.drop_succ_cons, List.drop_zero]
            repeat still_step
            refine wpStill_nil ?_
            go_wp2_with fail
            refine wp_tail 16 (by kernel_rfl) (by kernel_rfl) ?_
            simp only [List.take_succ_cons, List.take_zero, List.drop_succ_cons, List.drop_zero]
            repeat still_step
            refine wpStill_nil ?_
            obtain ⟨hn0, hn1, hn2, hz, hcz, hqc⟩ := Hf.out
            rw [hcz]
            have Hz := Lib.hid hz; have Hcz := Lib.hid hcz; have Hqc := Lib.hid hqc
            clear hn0 hn1 hn2 hz hcz hqc
            go_wp2
            go_roundg (d.files.length - (i + 1))
            case measure => omega
            case rel =>
              have hfew := h.few
              have hm1 : d.files.length - (i + 1) + (i + 1) = d.files.length := by omega
              have hj1 : j + 1 ≤ i + 1 := by have := hji.out; omega
              have hjc : (j : Int) + 1 = ((j + 1 : Nat) : Int) := by omega
              have hiw : wrap64 ((i : Int) + 1) = ((i + 1 : Nat) : Int) := (IntWalk.wrap64_in _ (by omega)).trans (by omega)
              have hfin3 := hfin.out
              rw [rcl_cut Hz.out, Hqc.out, drop_head.2] at hfin3
              refine ⟨i + 1, j + 1, pre ++ [⟨x.k, cutS x.s q, q⟩], hm1, by rw [hjc], by rw [hiw], by show (pre ++ _).length = i + 1; rw [List.length_append, hpl.out]; rfl, hj1, ?_, ref_then kr ((ref_two hr HxD.out (cutS x.s q) q (nq + 1)).2), ?_⟩
              · have := (ref_two hr HxD.out (cutS x.s q) q (nq + 1)).1
                have hset := (set_mid pre (d.files.drop (i + 1)) x ⟨x.k, cutS x.s q, q⟩ i hpl.out).1
                rw [show ({ d with files := pre ++ d.files.drop i } : Dk).files = pre ++ [x] ++ d.files.drop (i + 1) by rw [Hdrop.out, List.append_assoc]; rfl, hset] at this
                exact this
              · show pre ++ [_] ++ rcl (ks.drop (j + 1)) (d.files.drop (i + 1)) = _
                rw [List.append_assoc]
                exact hfin3
          · have hko : keepOf k0' = k0' := by unfold keepOf; rw [if_neg (by omega)]
            have hd0 : decide (k0' < 0) = false := decide_eq_false (by omega)
            rw [hko] at hwt hwq
            clear hn0 hn1 hn2 hz hcz hqc hmax hfew hji' hj63 hjl hk0b hD hDp hkp0 hkp1 ht0 ht1 hq hkn hko hq0 hq1
            go_wp2_with fail
            go_quiet (fail)
            go_wp2_with fail
            refine wp_tail 29 (by kernel_rfl) (by kernel_rfl) ?_
            simp only [List.take_succ_cons, List.take_zero, List.drop_succ_cons, List.drop_zero]
            repeat still_step
            refine wpStill_nil ?_
            go_wp2_with fail
            refine wp_tail 16 (by kernel_rfl) (by kernel_rfl) ?_
            simp only [List.take_succ_cons, List.take_zero, List.drop_succ_cons, List.drop_zero]
            repeat still_step
            refine wpStill_nil ?_
            obtain ⟨hn0, hn1, hn2, hz, hcz, hqc⟩ := Hf.out
            rw [hcz]
            have Hz := Lib.hid hz; have Hcz := Lib.hid hcz; have Hqc := Lib.hid hqc
            clear hn0 hn1 hn2 hz hcz hqc
            go_wp2
            go_roundg (d.files.length - (i + 1))
            case measure => omega
            case rel =>
              have hfew := h.few
              have hm1 : d.files.length - (i + 1) + (i + 1) = d.files.length := by omega
              have hj1 : j + 1 ≤ i + 1 := by have := hji.out; omega
              have hjc : (j : Int) + 1 = ((j + 1 : Nat) : Int) := by omega
              have hiw : wrap64 ((i : Int) + 1) = ((i + 1 : Nat) : Int) := (IntWalk.wrap64_in _ (by omega)).trans (by omega)
              have hfin3 := hfin.out
              rw [rcl_cut Hz.out, Hqc.out, drop_head.2] at hfin3
              refine ⟨i + 1, j + 1, pre ++ [⟨x.k, cutS x.s q, q⟩], hm1, by rw [hjc], by rw [hiw], by show (pre ++ _).length = i + 1; rw [List.length_append, hpl.out]; rfl, hj1, ?_, ref_then kr ((ref_two hr HxD.out (cutS x.s q) q (nq + 1)).2), ?_⟩
              · have := (ref_two hr HxD.out (cutS x.s q) q (nq + 1)).1
                have hset := (set_mid pre (d.files.drop (i + 1)) x ⟨x.k, cutS x.s q, q⟩ i hpl.out).1
                rw [show ({ d with files := pre ++ d.files.drop i } : Dk).files = pre ++ [x] ++ d.files.drop (i + 1) by rw [Hdrop.out, List.append_assoc]; rfl, hset] at this
                exact this
              · show pre ++ [_] ++ rcl (ks.drop (j + 1)) (d.files.drop (i + 1)) = _
                rw [List.append_assoc]
                exact hfin3
        · have hjl1 : ¬ ((j : Int) < (ks.length : Int)) := by omega
          have hjw : IntKind.i64.wrap ((j : Int) + 1) = (j : Int) + 1 := IntWalk.i64_in _ (by omega)
          obtain ⟨D, hD⟩ : ∃ D, D = (x.s.size : Int) - x.n + 1 := ⟨_, rfl⟩
          have hwr : IntKind.i64.wrap ((x.s.size : Int) - x.n + 1) = D := (IntWalk.i64_in _ (by omega)).trans hD.symm
          have hD0 : ¬ D = 0 := by omega
          have hwq : IntKind.i64.wrap x.n = x.n := IntWalk.i64_in _ (by omega)
          have hcs : ∀ W : World, (Instr.slice 9 (.string x.s) none (some (.int .i64 x.n)) none).run Try.prog W = .ok (.string (cutS x.s x.n)) W := fun W => run_slice_string_h W 9 _ Try.underlying9 .i64 x.n hn0 hn1
          have hcz : ((cutS x.s x.n).size : Int) = x.n := size_cutS hn0 hn1
          have hqc : cutQ x ((ks.drop j).headD 0) = x.n := by
            unfold cutQ
            rw [List.drop_eq_nil_of_le hjl]
            simp [keepOf]
          have Hf := Lib.hid (And.intro hn0 (And.intro hn1 (And.intro hn2 (And.intro hz (And.intro hcz hqc)))))
          clear hn0 hn1 hn2 hz hcz hqc hmax hfew hji' hj63 hjl hD
          go_wp2_with fail
          go_quiet (fail)
          go_wp2_with fail
          refine wp_tail 29 (by kernel_rfl) (by kernel_rfl) ?_
          simp only [List.take_succ_cons, List.take_zero, List.drop_succ_cons, List.drop_zero]
          repeat still_step
          refine wpStill_nil ?_
          go_wp2_with fail
          refine wp_tail 16 (by kernel_rfl) (by kernel_rfl) ?_
          simp only [List.take_succ_cons, List.take_zero, List.drop_succ_cons, List.drop_zero]
          repeat still_step
          refine wpStill_nil ?_
          obtain ⟨hn0, hn1, hn2, hz, hcz, hqc⟩ := Hf.out
          rw [hcz]
          have Hz := Lib.hid hz; have Hcz := Lib.hid hcz; have Hqc := Lib.hid hqc
          clear hn0 hn1 hn2 hz hcz hqc
          go_wp2
          go_roundg (d.files.length - (i + 1))
          case measure => omega
          case rel =>
            have hfew := h.few
            have hm1 : d.files.length - (i + 1) + (i + 1) = d.files.length := by omega
            have hj1 : j + 1 ≤ i + 1 := by have := hji.out; omega
            have hjc : (j : Int) + 1 = ((j + 1 : Nat) : Int) := by omega
            have hiw : wrap64 ((i : Int) + 1) = ((i + 1 : Nat) : Int) := (IntWalk.wrap64_in _ (by omega)).trans (by omega)
            have hfin3 := hfin.out
            rw [rcl_cut Hz.out, Hqc.out, drop_head.2] at hfin3
            refine ⟨i + 1, j + 1, pre ++ [⟨x.k, cutS x.s x.n, x.n⟩], hm1, by rw [hjc], by rw [hiw], by show (pre ++ _).length = i + 1; rw [List.length_append, hpl.out]; rfl, hj1, ?_, ref_then kr ((ref_two hr HxD.out (cutS x.s x.n) x.n (nq + 1)).2), ?_⟩
            · have := (ref_two hr HxD.out (cutS x.s x.n) x.n (nq + 1)).1
              have hset := (set_mid pre (d.files.drop (i + 1)) x ⟨x.k, cutS x.s x.n, x.n⟩ i hpl.out).1
              rw [show ({ d with files := pre ++ d.files.drop i } : Dk).files = pre ++ [x] ++ d.files.drop (i + 1) by rw [Hdrop.out, List.append_assoc]; rfl, hset] at this
              exact this
            · show pre ++ [_] ++ rcl (ks.drop (j + 1)) (d.files.drop (i + 1)) = _
              rw [List.append_assoc]
              exact hfin3
    · have hl1 : ¬ ((i : Int) < (d.files.length : Int)) := by omega
      have hie : i = d.files.length := by omega
      have hfin2 : pre = rcl ks d.files := by
        have := hfin.out
        rw [List.drop_eq_nil_of_le hge] at this
        simpa [rcl] using this
      rw [List.drop_eq_nil_of_le hge, List.append_nil, hfin2] at hr
      clear hfin2
      go_wp2
      go_end0
      exact ⟨rfl, ⟨_, (hr.set3 false).set2 0⟩, ref_then kr (((Fr.refl (RefS wr base) wr).setCell (p := ⟨g, 3, none⟩) (fun _ => hr.inS) _).setCell (p := ⟨g, 2, none⟩) (fun _ => hr.inS) _)⟩

end Go.Proofs.Ytljfagagopaidaa
