/- The document's disk: Cut and Drop, walked. -/
import Derived.Test.YtljfagagopaidaaRs
import Derived.Test.YtljfagagopaidaaDb
namespace Go.Proofs.Ytljfagagopaidaa
open Go.RowKit Go.Proofs.YtljfagagopaidaaW.PrintWords
set_option linter.unusedSimpArgs false
set_option linter.unusedVariables false
set_option maxRecDepth 100000

theorem RefAt.apart {w : World} {base g : Nat} {ad : Addr} {n c : Nat} {d : Dk} (h : RefAt w base g (.slice (some ad) n c) d) {i : Nat} {x : Fl} (hx : d.files[i]? = some x) : (ad.add (i * 3)).block ≠ g := by
  obtain ⟨ad', e, _, ⟨cs, hb⟩, _, _, _, _, _⟩ := h.file hx
  injection e with e
  subst e
  rw [block_add]
  intro e
  rw [e, h.blk] at hb
  injection hb with hb
  injection hb with _ h2
  cases h2

set_option maxHeartbeats 4000000 in
theorem rcut_calls {w : World} {base g : Nat} {v : Value} {d : Dk} (h : RefAt w base g v d) (ok : d.Ok) (f k : Int) :
    Calls Try.prog 25 #[.pointer (some ⟨g, 0, none⟩), .int .i64 f, .int .i64 k] w fun e w' => e = .returned (.int .i64 (d.cutE f k)) ∧ RefTo w w' base g (d.cut f k) := by
  by_cases hw : d.wrong f = 0
  · have hb0 : (d.wrong f != 0) = false := by simpa using hw
    have hrs : d.readS f = sAt d.files f := by unfold Dk.readS; rw [if_neg (by simp [hw])]
    by_cases hk : k < 0
    · have E := Lib.hid (Dk.cut_neg hw hk)
      have Hw := Lib.hid hw; clear hw
      go_enter Try.func25, Try.ntmps25
      go_wp2_with (first | (go_at_call 55; refine (rwrong_calls h f).mono ?_; rintro e w' ⟨rfl, rfl⟩) | (go_at_call 30; refine (rread_calls h f).mono ?_; rintro e w' ⟨rfl, nd, rfl⟩; rw [hrs]))
      go_ret
      exact ⟨by rw [E.out.1]; rfl, by rw [E.out.2]; exact ⟨v, d, h.drewN _, Alike.refl d, (Fr.refl _ w).drewN _⟩⟩
    · by_cases hl : ((sAt d.files f).size : Int) < k
      · have E := Lib.hid (Dk.cut_long hw (by omega) hl)
        have Hw := Lib.hid hw; clear hw
        go_enter Try.func25, Try.ntmps25
        go_wp2_with (first | (go_at_call 55; refine (rwrong_calls h f).mono ?_; rintro e w' ⟨rfl, rfl⟩) | (go_at_call 30; refine (rread_calls h f).mono ?_; rintro e w' ⟨rfl, nd, rfl⟩; rw [hrs]))
        go_ret
        exact ⟨by rw [E.out.1]; rfl, by rw [E.out.2]; exact ⟨v, d, h.drewN _, Alike.refl d, (Fr.refl _ w).drewN _⟩⟩
      · have E := Lib.hid (Dk.cut_goes hw (k := k) (by omega) (by omega))
        have Hw := Lib.hid hw; clear hw
        have hk0 : 0 ≤ k := by omega
        have hk1 : k ≤ ((sAt d.files f).size : Int) := by omega
        cases hdd : d.step.dead with
        | true =>
          have Hdd := Lib.hid hdd
          have hv0 : (!d.step.dead) = false := by rw [hdd]; rfl
          clear hdd
          go_enter Try.func25, Try.ntmps25
          go_wp2_with (first | (go_at_call 55; refine (rwrong_calls h f).mono ?_; rintro e w' ⟨rfl, rfl⟩) | (go_at_call 30; refine (rread_calls h f).mono ?_; rintro e w' ⟨rfl, nr, rfl⟩; rw [hrs]) | (go_at_call 57; refine (rstep_calls (h.drewN nr) ok.arm0 ok.arm1).mono ?_; rintro e w3 ⟨rfl, h3, k3⟩; rw [hv0]))
          go_ret
          refine ⟨by rw [E.out.1, (Dk.changed_dead (f := f) (D := d) Hdd.out).2]; rfl, _, _, h3, ?_, ref_then ((Fr.refl _ w).drewN nr) k3⟩
          rw [E.out.2, (Dk.changed_dead Hdd.out).1]
          exact Alike.refl _
        | false =>
          have Hdd := Lib.hid hdd
          have hv0 : (!d.step.dead) = true := by rw [hdd]; rfl
          have he0 : d.stepE = 0 := by unfold Dk.stepE; rw [hdd]; rfl
          have He := Lib.hid he0
          clear hdd he0
          cases hi : isAt d.files f with
          | false =>
            have hv : atV d.step.files f = .tuple #[.int .i64 (plc d.files f), .bool false] := by show atV d.files f = _; unfold atV; rw [hi]
            have hl : (look d.files f).isSome = false := by rw [show look d.files f = none from isAt_none h.srt hi]; rfl
            have Hl := Lib.hid hl
            clear hi hl
            go_enter Try.func25, Try.ntmps25
            go_wp2_with (first | (go_at_call 55; refine (rwrong_calls h f).mono ?_; rintro e w' ⟨rfl, rfl⟩) | (go_at_call 30; refine (rread_calls h f).mono ?_; rintro e w' ⟨rfl, nr, rfl⟩; rw [hrs]) | (go_at_call 57; refine (rstep_calls (h.drewN nr) ok.arm0 ok.arm1).mono ?_; rintro e w3 ⟨rfl, h3, k3⟩; rw [hv0]) | (go_at_call 56; refine (at_calls h3 f).mono ?_; rintro e w' ⟨rfl, nd, rfl⟩; rw [hv]))
            go_ret
            refine ⟨by rw [E.out.1, He.out]; rfl, _, _, h3.drewN _, ?_, ref_then ((Fr.refl _ w).drewN nr) (k3.drewN _)⟩
            rw [E.out.2, (Dk.changed_none Hdd.out Hl.out).1]
            exact Alike.refl _
          | true =>
            obtain ⟨x, hx1, hx2, hx3⟩ := isAt_some hi
            have hv : atV d.step.files f = .tuple #[.int .i64 (plc d.files f), .bool true] := by show atV d.files f = _; unfold atV; rw [hi]
            have hl : (look d.files f).isSome = true := by rw [show look d.files f = some x from hx3]; rfl
            obtain ⟨A, c, rfl⟩ := h.slice
            have hpl : (plc d.files f : Int) < (d.files.length : Int) := by have := (List.getElem?_eq_some_iff.1 hx1).1; omega
            have hlay : lay d.step.files ⟨f, cutS (sAt d.files f) k, k⟩ = d.step.files.set (plc d.files f) ⟨f, cutS (sAt d.files f) k, k⟩ := lay_set h.srt hi rfl
            have hcs : ∀ W : World, (Instr.slice 9 (.string (sAt d.files f)) none (some (.int .i64 k)) none).run Try.prog W = .ok (.string (cutS (sAt d.files f) k)) W := fun W => run_slice_string_h W 9 _ Try.underlying9 .i64 k hk0 hk1
            have Hl := Lib.hid hl
            have Hx1 := Lib.hid hx1
            have Hx2 := Lib.hid hx2
            have Hlay := Lib.hid hlay
            clear hi hl hx1 hx2 hx3 hlay
            go_enter Try.func25, Try.ntmps25
            go_wp2_with (first | (go_at_call 55; refine (rwrong_calls h f).mono ?_; rintro e w' ⟨rfl, rfl⟩) | (go_at_call 30; refine (rread_calls h f).mono ?_; rintro e w' ⟨rfl, nr, rfl⟩; rw [hrs]) | (go_at_call 57; refine (rstep_calls (h.drewN nr) ok.arm0 ok.arm1).mono ?_; rintro e w3 ⟨rfl, h3, k3⟩; rw [hv0]) | (go_at_call 56; refine (at_calls h3 f).mono ?_; rintro e w' ⟨rfl, nd, rfl⟩; rw [hv]; obtain ⟨ad, rfl, hab, _, k0, k1, k2, kf, had⟩ := h3.file Hx1.out; have c0 := h3.c0; have kf1 := kf ((ad.add (plc d.files f * 3)).off + 1); have kf2 := kf ((ad.add (plc d.files f * 3)).off + 2); have hne := h3.apart Hx1.out; have hne2 := hne.symm; have H3 := Lib.hid h3; have K3 := Lib.hid k3; clear h3 k3 kf))
            refine wp_tail 10 (by kernel_rfl) (by kernel_rfl) ?_
            simp only [List.take_succ_cons, List.take_zero, List.drop_succ_cons, List.drop_zero]
            repeat still_step
            refine wpStill_nil ?_
            go_wp2
            go_ret
            have hput := (H3.out.drewN nd).drew.put Hx1.out ⟨f, cutS (sAt d.files f) k, x.n⟩ Hx2.out.symm 1 (by decide) (.string (cutS (sAt d.files f) k)) (by rw [Hx2.out]; rfl)
            have hx4 : (d.step.files.set (plc d.files f) ⟨f, cutS (sAt d.files f) k, x.n⟩)[plc d.files f]? = some ⟨f, cutS (sAt d.files f) k, x.n⟩ := by
              exact List.getElem?_set_self (List.getElem?_eq_some_iff.1 Hx1.out).1
            have hput2 := hput.1.put hx4 ⟨f, cutS (sAt d.files f) k, k⟩ rfl 2 (by decide) (.int .i64 k) rfl
            refine ⟨by rw [E.out.1, He.out]; rfl, _, _, hput2.1, ?_, ?_⟩
            · rw [E.out.2, (Dk.changed_some Hdd.out Hl.out).1]
              refine ⟨?_, rfl, rfl, rfl, rfl⟩
              show List.Perm ((d.step.files.set _ _).set _ _) (lay d.step.files _)
              rw [Hlay.out, List.set_set]
            · exact ref_then (ref_then ((Fr.refl _ w).drewN nr) ((K3.out.drewN nd).drew)) (ref_then ((H3.out.drewN nd).drew.put_fr Hx1.out 1 (.string (cutS (sAt d.files f) k))) (hput.1.put_fr hx4 2 (.int .i64 k)))
  · have hb0 : (d.wrong f != 0) = true := by simpa using hw
    have E := Lib.hid (Dk.cut_wrong k hw)
    go_enter Try.func25, Try.ntmps25
    go_wp2_with (first | (go_at_call 55; refine (rwrong_calls h f).mono ?_; rintro e w' ⟨rfl, rfl⟩))
    go_ret
    exact ⟨by rw [E.out.1]; rfl, by rw [E.out.2]; exact ⟨v, d, h, Alike.refl d, Fr.refl _ w⟩⟩

theorem drop_is {d : Dk} {f : Int} (hw : d.wrong f = 0) : d.changeE f = d.stepE ∧ d.dropped f = d.changed f (d.step.del f) := by
  unfold Dk.changeE Dk.dropped
  rw [if_neg (by simp [hw]), if_neg (by simp [hw])]
  exact ⟨rfl, rfl⟩
theorem drop_wrong {d : Dk} {f : Int} (hw : d.wrong f ≠ 0) : d.changeE f = d.wrong f ∧ d.dropped f = d := by
  unfold Dk.changeE Dk.dropped
  rw [if_pos hw, if_pos hw]
  exact ⟨rfl, rfl⟩

theorem rdrop_at {l : List Fl} {f : Int} (hs : l.Pairwise (fun a b => a.k < b.k)) (h : isAt l f = true) : drop l f = l.take (plc l f) ++ l.drop (plc l f + 1) := by
  obtain ⟨x, h1, h2, h3⟩ := isAt_some h
  obtain ⟨hi, hx⟩ := List.getElem?_eq_some_iff.1 h1
  unfold drop
  conv => lhs; rw [← List.take_append_drop (plc l f) l, List.drop_eq_getElem_cons hi]
  rw [List.filter_append, List.filter_cons_of_neg (by rw [hx]; simp [h2])]
  congr 1
  · rw [List.filter_eq_self]
    intro y hy
    have := plc_lt y hy
    simp
    omega
  · rw [List.filter_eq_self]
    intro y hy
    have : l[plc l f].k < y.k := by
      have h4 := hs
      rw [← List.take_append_drop (plc l f) l, List.drop_eq_getElem_cons hi, List.pairwise_append, List.pairwise_cons] at h4
      exact h4.2.1.1 y hy
    rw [hx, h2] at this
    simp
    omega

set_option maxHeartbeats 4000000 in
theorem rdrop_calls {w : World} {base g : Nat} {v : Value} {d : Dk} (h : RefAt w base g v d) (ok : d.Ok) (hb : base ≤ w.heap.size) (f : Int) :
    Calls Try.prog 27 #[.pointer (some ⟨g, 0, none⟩), .int .i64 f] w fun e w' => e = .returned (.int .i64 (d.changeE f)) ∧ RefTo w w' base g (d.dropped f) := by
  by_cases hw : d.wrong f = 0
  · have hb0 : (d.wrong f != 0) = false := by simpa using hw
    have E := Lib.hid (drop_is hw)
    have Hw := Lib.hid hw; clear hw
    have hfew := h.few
    cases hdd : d.step.dead with
    | true =>
      have Hdd := Lib.hid hdd
      have hv0 : (!d.step.dead) = false := by rw [hdd]; rfl
      clear hdd
      go_enter Try.func27, Try.ntmps27
      go_wp2_with (first | (go_at_call 55; refine (rwrong_calls h f).mono ?_; rintro e w' ⟨rfl, rfl⟩) | (go_at_call 57; refine (rstep_calls h ok.arm0 ok.arm1).mono ?_; rintro e w3 ⟨rfl, h3, k3⟩; rw [hv0]))
      go_ret
      refine ⟨by rw [E.out.1, (Dk.changed_dead (f := f) (D := d) Hdd.out).2]; rfl, _, _, h3, ?_, k3⟩
      rw [E.out.2, (Dk.changed_dead Hdd.out).1]
      exact Alike.refl _
    | false =>
      have Hdd := Lib.hid hdd
      have hv0 : (!d.step.dead) = true := by rw [hdd]; rfl
      have he0 : d.stepE = 0 := by unfold Dk.stepE; rw [hdd]; rfl
      have He := Lib.hid he0
      clear hdd he0
      cases hi : isAt d.files f with
      | false =>
        have hv : atV d.step.files f = .tuple #[.int .i64 (plc d.files f), .bool false] := by show atV d.files f = _; unfold atV; rw [hi]
        have hl : (look d.files f).isSome = false := by rw [show look d.files f = none from isAt_none h.srt hi]; rfl
        have Hl := Lib.hid hl
        clear hi hl
        go_enter Try.func27, Try.ntmps27
        go_wp2_with (first | (go_at_call 55; refine (rwrong_calls h f).mono ?_; rintro e w' ⟨rfl, rfl⟩) | (go_at_call 57; refine (rstep_calls h ok.arm0 ok.arm1).mono ?_; rintro e w3 ⟨rfl, h3, k3⟩; rw [hv0]) | (go_at_call 56; refine (at_calls h3 f).mono ?_; rintro e w' ⟨rfl, nd, rfl⟩; rw [hv]))
        go_ret
        refine ⟨by rw [E.out.1, He.out]; rfl, _, _, h3.drewN _, ?_, k3.drewN _⟩
        rw [E.out.2, (Dk.changed_none Hdd.out Hl.out).1]
        exact Alike.refl _
      | true =>
        obtain ⟨x, hx1, hx2, hx3⟩ := isAt_some hi
        have hv : atV d.step.files f = .tuple #[.int .i64 (plc d.files f), .bool true] := by show atV d.files f = _; unfold atV; rw [hi]
        have hl : (look d.files f).isSome = true := by rw [show look d.files f = some x from hx3]; rfl
        obtain ⟨A, c, rfl⟩ := h.slice
        have hcap := h.cap
        have hcl : d.files.length ≤ c := by omega
        have hplt : plc d.files f < d.files.length := (List.getElem?_eq_some_iff.1 hx1).1
        have hpl : (plc d.files f : Int) ≤ (d.files.length : Int) := by omega
        have hdrop := rdrop_at h.srt hi
        have hsub : (d.files.take (plc d.files f) ++ d.files.drop (plc d.files f + 1)).Sublist d.files := by
          rw [← hdrop]
          exact List.filter_sublist
        have Hsub := Lib.hid hsub
        have Hdrop := Lib.hid hdrop
        have Hl := Lib.hid hl
        clear hi hl hx1 hx2 hx3 hdrop hsub
        have hs1 : ∀ W : World, (Instr.slice 80 (.slice A d.files.length c) none (some (.int .i64 (plc d.files f : Int))) none).run Try.prog W = .ok (.slice A (plc d.files f) c) W := by
          obtain ⟨i0, hi0, _, hsz, _⟩ := info_parts info87
          intro W
          exact cut_to (P := Try.prog) 80 87 .i64 Try.underlying80 hi0 A d.files.length c (plc d.files f : Int) (by omega) hpl hcl W
        have hpw : IntKind.i64.wrap ((plc d.files f : Int) + 1) = ((plc d.files f + 1 : Nat) : Int) := (IntWalk.i64_in _ (by omega)).trans (by omega)
        obtain ⟨p1, hp1⟩ : ∃ p1, p1 = plc d.files f + 1 := ⟨_, rfl⟩
        have hp1' : (plc d.files f : Int) + 1 = (p1 : Int) := by omega
        have hp2 : p1 ≤ d.files.length := by omega
        have hp3 : (p1 : Int) ≤ (d.files.length : Int) := by omega
        obtain ⟨A3, hA3⟩ : ∃ A3, A3 = (if c = p1 then A else A.map (·.add (p1 * 3))) := ⟨_, rfl⟩
        have hs3 : ∀ W : World, (Instr.slice 80 (.slice A d.files.length c) (some (.int .i64 (p1 : Int))) none none).run Try.prog W = .ok (.slice A3 (d.files.length - p1) (c - p1)) W := by
          obtain ⟨i0, hi0, _, hsz, _⟩ := info_parts info87
          intro W
          rw [hA3]
          exact cut_from (P := Try.prog) 80 87 .i64 Try.underlying80 hi0 3 hsz A d.files.length c (p1 : Int) (by omega) hp3 W
        have hs3' : ∀ W : World, (Instr.slice 80 (.slice A d.files.length c) (some (.int .i64 ((plc d.files f : Int) + 1))) none none).run Try.prog W = .ok (.slice A3 (d.files.length - p1) (c - p1)) W := by
          intro W
          rw [hp1']
          exact hs3 W
        have hA3' := Lib.hid hA3; clear hA3 hs3
        have Hp1 := Lib.hid hp1
        have main : ∀ (w0 : World) nd, RefAt w0 base g (.slice A d.files.length c) d.step → base ≤ w0.heap.size → ∃ v1 w1 v3 w3, (Builtin.append_ #[80, 80] 80 #[.slice none 0 0, .slice A (plc d.files f) c]).run Try.prog (w0.drewN nd) = .ok v1 w1 ∧
            (Builtin.append_ #[80, 80] 80 #[v1, .slice A3 (d.files.length - p1) (c - p1)]).run Try.prog w1 = .ok v3 w3 ∧
            w1.cell? ⟨g, 0, none⟩ = some (.slice A d.files.length c) ∧ w3.cell? ⟨g, 0, none⟩ = some (.slice A d.files.length c) ∧ w3.frozen? ⟨g, 0, none⟩ = false ∧ RefAt (w3.setCell ⟨g, 0, none⟩ v3) base g v3 (d.step.del f) ∧ Fr (RefS w0 base) w0 (w3.setCell ⟨g, 0, none⟩ v3) := by
          intro w0 nd h0 hb0
          have hW0 := h0.drewN nd
          obtain ⟨hlg, hlv⟩ := hW0.lt
          have htl : (d.files.take (plc d.files f)).length = plc d.files f := by rw [List.length_take]; omega
          obtain ⟨v1, w1, r1, o1, k1, b1⟩ := app_run (w := w0.drewN nd) (base := base) (v := .slice none 0 0) (l := []) (own_nil _ _ _ _) hb0 A (plc d.files f) c _ (hW0.front (plc d.files f)) htl (by simp) (by omega)
          have hW1 := hW0.fr2 k1 (by simp [Value.ownBlock]) (fun b _ => by simp [Value.ownBlock])
          have n1 : ∀ b, b < (w0.drewN nd).heap.size → ¬ v1.ownBlock = some b := by
            intro b hb e
            rcases b1 with h1 | h1
            · rw [h1] at e; cases e
            · rw [h1] at e; injection e with e; omega
          have k1' : Fr (fun _ => False) (w0.drewN nd) w1 := k1.mono (fun k _ hk => by simp [Value.ownBlock] at hk)
          obtain ⟨v3, w3, r3, o3, k3, b3⟩ := app_run o1 (Nat.le_trans hb0 k1.size) A3 (d.files.length - p1) (c - p1) (d.files.drop p1) (by rw [hA3'.out]; exact hW1.back _ hp2) (by rw [List.length_drop]) (by show (List.take _ d.files).length ≤ _; omega) (by omega)
          have hW3 := hW1.fr2 k3 (n1 g hlg) (fun b hb' => n1 b (hlv b hb'))
          have kall : Fr (fun _ => False) (w0.drewN nd) w3 := k1'.then_ k3 (fun i hi e => n1 i hi e)
          refine ⟨v1, w1, v3, w3, r1, r3, hW1.c0, hW3.c0, free_blk hW3.blk 0, ?_, ?_⟩
          · have hfl : (d.step.del f).files = d.files.take (plc d.files f) ++ d.files.drop p1 := by rw [Hp1.out]; exact Hdrop.out
            have := hW3.row_set ((d.step.del f).files) (by rw [hfl]; exact o3) (by rw [hfl, Hp1.out]; exact h.srt.sublist Hsub.out) (by rw [hfl, Hp1.out]; intro x hx; exact h.keys x (Hsub.out.subset hx))
            exact this
          · exact (((Fr.refl (fun _ => False) w0).drewN nd).trans kall).none_.setCell (fun _ => h0.inS) _
        have Hmain := Lib.hid main
        clear main hp1 hp1'
        go_enter Try.func27, Try.ntmps27
        go_wp2_with (first | (go_at_call 55; refine (rwrong_calls h f).mono ?_; rintro e w' ⟨rfl, rfl⟩) | (go_at_call 57; refine (rstep_calls h ok.arm0 ok.arm1).mono ?_; rintro e w3 ⟨rfl, h3, k3⟩; rw [hv0]) | (go_at_call 56; refine (at_calls h3 f).mono ?_; rintro e w' ⟨rfl, nd, rfl⟩; rw [hv]; have c0 := h3.c0; obtain ⟨v1, w1, v4, w4, r1, r3, c02, c03, f03, hI, kI⟩ := Hmain.out w3 nd h3 (Nat.le_trans hb k3.size); obtain ⟨A4, c4, rfl⟩ := hI.slice; have HI := Lib.hid hI; have KI := Lib.hid kI; have K3 := Lib.hid k3; clear hI kI h3 k3) | (at_builtin; first | refine wp_app rfl _ _ rfl rfl rfl rfl r1 ?_ | refine wp_app rfl _ _ rfl rfl rfl rfl r3 ?_))
        go_ret
        refine ⟨by rw [E.out.1, He.out]; rfl, _, _, HI.out, ?_, ref_then K3.out KI.out⟩
        rw [E.out.2, (Dk.changed_some Hdd.out Hl.out).1]
        exact Alike.refl _
  · have hb0 : (d.wrong f != 0) = true := by simpa using hw
    have E := Lib.hid (drop_wrong hw)
    go_enter Try.func27, Try.ntmps27
    go_wp2_with (first | (go_at_call 55; refine (rwrong_calls h f).mono ?_; rintro e w' ⟨rfl, rfl⟩))
    go_ret
    exact ⟨by rw [E.out.1]; rfl, by rw [E.out.2]; exact ⟨v, d, h, Alike.refl d, Fr.refl _ w⟩⟩

end Go.Proofs.Ytljfagagopaidaa
