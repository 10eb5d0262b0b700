/- The document's disk: Sync and Cut, walked. -/
import Derived.Test.YtljfagagopaidaaRa
namespace Go.Proofs.Ytljfagagopaidaa
open Go.RowKit Go.Proofs.YtljfagagopaidaaW.PrintWords
set_option linter.unusedSimpArgs false
set_option linter.unusedVariables false
set_option maxRecDepth 100000

theorem RefAt.put_fr {w : World} {base g : Nat} {ad : Addr} {n c : Nat} {d : Dk} (h : RefAt w base g (.slice (some ad) n c) d) {i : Nat} {x : Fl} (hx : d.files[i]? = some x) (j : Nat) (u : Value) :
    Fr (RefS w base) w (w.setCell ⟨(ad.add (i * 3)).block, (ad.add (i * 3)).off + j, none⟩ u) :=
  (Fr.refl (RefS w base) w).setCell (p := ⟨(ad.add (i * 3)).block, (ad.add (i * 3)).off + j, none⟩) (fun _ => (h.put hx x rfl 0 (by decide) (.int .i64 x.k) rfl).2) u

theorem sync_is {d : Dk} {f : Int} (hw : d.wrong f = 0) : d.changeE f = d.stepE ∧ d.sync f = d.changed f (d.step.put ⟨f, sAt d.files f, (sAt d.files f).size⟩) := by
  unfold Dk.changeE Dk.sync
  rw [if_neg (by simp [hw]), if_neg (by simp [hw])]
  exact ⟨rfl, rfl⟩
theorem sync_wrong {d : Dk} {f : Int} (hw : d.wrong f ≠ 0) : d.changeE f = d.wrong f ∧ d.sync f = d := by
  unfold Dk.changeE Dk.sync
  rw [if_pos hw, if_pos hw]
  exact ⟨rfl, rfl⟩

set_option maxHeartbeats 2000000 in
theorem rsync_calls {w : World} {base g : Nat} {v : Value} {d : Dk} (h : RefAt w base g v d) (ok : d.Ok) (f : Int) :
    Calls Try.prog 23 #[.pointer (some ⟨g, 0, none⟩), .int .i64 f] w fun e w' => e = .returned (.int .i64 (d.changeE f)) ∧ RefTo w w' base g (d.sync f) := by
  by_cases hw : d.wrong f = 0
  · have hb0 : (d.wrong f != 0) = false := by simpa using hw
    have E := Lib.hid (sync_is hw)
    have Hw := Lib.hid hw; clear hw
    cases hdd : d.step.dead with
    | true =>
      have Hdd := Lib.hid hdd
      have hv0 : (!d.step.dead) = false := by rw [hdd]; rfl
      clear hdd
      go_enter Try.func23, Try.ntmps23
      go_wp2_with (first | (go_at_call 55; refine (rwrong_calls h f).mono ?_; rintro e w' ⟨rfl, rfl⟩) | (go_at_call 57; refine (rstep_calls h ok.arm0 ok.arm1).mono ?_; rintro e w3 ⟨rfl, h3, k3⟩; rw [hv0]))
      go_ret
      refine ⟨by rw [E.out.1, (Dk.changed_dead (f := f) (D := d) Hdd.out).2]; rfl, _, _, h3, ?_, k3⟩
      rw [E.out.2, (Dk.changed_dead Hdd.out).1]
      exact Alike.refl _
    | false =>
      have Hdd := Lib.hid hdd
      have hv0 : (!d.step.dead) = true := by rw [hdd]; rfl
      have he0 : d.stepE = 0 := by unfold Dk.stepE; rw [hdd]; rfl
      have He := Lib.hid he0
      clear hdd he0
      cases hi : isAt d.files f with
      | false =>
        have hv : atV d.step.files f = .tuple #[.int .i64 (plc d.files f), .bool false] := by show atV d.files f = _; unfold atV; rw [hi]
        have hl : (look d.files f).isSome = false := by rw [show look d.files f = none from isAt_none h.srt hi]; rfl
        have Hl := Lib.hid hl
        clear hi hl
        go_enter Try.func23, Try.ntmps23
        go_wp2_with (first | (go_at_call 55; refine (rwrong_calls h f).mono ?_; rintro e w' ⟨rfl, rfl⟩) | (go_at_call 57; refine (rstep_calls h ok.arm0 ok.arm1).mono ?_; rintro e w3 ⟨rfl, h3, k3⟩; rw [hv0]) | (go_at_call 56; refine (at_calls h3 f).mono ?_; rintro e w' ⟨rfl, nd, rfl⟩; rw [hv]))
        go_ret
        refine ⟨by rw [E.out.1, He.out]; rfl, _, _, h3.drewN _, ?_, k3.drewN _⟩
        rw [E.out.2, (Dk.changed_none Hdd.out Hl.out).1]
        exact Alike.refl _
      | true =>
        obtain ⟨x, hx1, hx2, hx3⟩ := isAt_some hi
        have hv : atV d.step.files f = .tuple #[.int .i64 (plc d.files f), .bool true] := by show atV d.files f = _; unfold atV; rw [hi]
        have hl : (look d.files f).isSome = true := by rw [show look d.files f = some x from hx3]; rfl
        obtain ⟨A, c, rfl⟩ := h.slice
        obtain ⟨e1, e2⟩ := sAt_of hx3
        have hpl : (plc d.files f : Int) < (d.files.length : Int) := by have := (List.getElem?_eq_some_iff.1 hx1).1; omega
        have hlay : lay d.step.files ⟨f, sAt d.files f, (sAt d.files f).size⟩ = d.step.files.set (plc d.files f) ⟨f, x.s, x.s.size⟩ := by
          rw [show sAt d.files f = x.s from e1]
          exact lay_set h.srt hi rfl
        have hxs : x.s.size ≤ 16777216 := by rw [← e1]; exact ok.sAt f
        have Hl := Lib.hid hl
        have Hx1 := Lib.hid hx1
        have Hx2 := Lib.hid hx2
        have Hlay := Lib.hid hlay
        clear hi hl hx1 hx2 hx3 e1 e2 hlay
        go_enter Try.func23, Try.ntmps23
        go_wp2_with (first | (go_at_call 55; refine (rwrong_calls h f).mono ?_; rintro e w' ⟨rfl, rfl⟩) | (go_at_call 57; refine (rstep_calls h ok.arm0 ok.arm1).mono ?_; rintro e w3 ⟨rfl, h3, k3⟩; rw [hv0]) | (go_at_call 56; refine (at_calls h3 f).mono ?_; rintro e w' ⟨rfl, nd, rfl⟩; rw [hv]; obtain ⟨ad, rfl, hab, _, k0, k1, k2, kf, had⟩ := h3.file Hx1.out; have c0 := h3.c0; have kf1 := kf ((ad.add (plc d.files f * 3)).off + 2); have H3 := Lib.hid h3; have K3 := Lib.hid k3; clear h3 k3 kf))
        refine wp_tail 16 (by kernel_rfl) (by kernel_rfl) ?_
        simp only [List.take_succ_cons, List.take_zero, List.drop_succ_cons, List.drop_zero]
        repeat still_step
        refine wpStill_nil ?_
        go_wp2
        go_ret
        have hput := (H3.out.drewN nd).drew.put Hx1.out ⟨f, x.s, x.s.size⟩ Hx2.out.symm 2 (by decide) (.int .i64 x.s.size) (by rw [Hx2.out]; rfl)
        refine ⟨by rw [E.out.1, He.out]; rfl, _, _, hput.1, ?_, ?_⟩
        · rw [E.out.2, (Dk.changed_some Hdd.out Hl.out).1]
          exact ⟨by show List.Perm _ (lay d.step.files _); rw [Hlay.out], rfl, rfl, rfl, rfl⟩
        · exact ref_then ((K3.out.drewN nd).drew) ((H3.out.drewN nd).drew.put_fr Hx1.out 2 (.int .i64 x.s.size))
  · have hb0 : (d.wrong f != 0) = true := by simpa using hw
    have E := Lib.hid (sync_wrong hw)
    go_enter Try.func23, Try.ntmps23
    go_wp2_with (first | (go_at_call 55; refine (rwrong_calls h f).mono ?_; rintro e w' ⟨rfl, rfl⟩))
    go_ret
    exact ⟨by rw [E.out.1]; rfl, by rw [E.out.2]; exact ⟨v, d, h, Alike.refl d, Fr.refl _ w⟩⟩

end Go.Proofs.Ytljfagagopaidaa
