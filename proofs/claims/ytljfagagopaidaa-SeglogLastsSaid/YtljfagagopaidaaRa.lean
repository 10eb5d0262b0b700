/- The document's disk: Append, walked. -/
import Derived.Test.YtljfagagopaidaaRg
namespace Go.Proofs.Ytljfagagopaidaa
open Go.RowKit Go.Proofs.YtljfagagopaidaaW.PrintWords
set_option linter.unusedSimpArgs false
set_option linter.unusedVariables false
set_option maxRecDepth 100000

/-- What a change of the document's disk leaves. -/
def RefTo (w w' : World) (base g : Nat) (r : Dk) : Prop := ∃ v' r', RefAt w' base g v' r' ∧ Alike r r' ∧ Fr (RefS w base) w w'

theorem RefS.back {w w2 : World} {base : Nat} (k : Fr (RefS w base) w w2) {i : Nat} (hi : i < w.heap.size) (h : RefS w2 base i) : RefS w base i := by
  by_cases hc : RefS w base i
  · exact hc
  · obtain ⟨h1, h2⟩ := h
    rw [k.block i hi hc] at h2
    exact ⟨h1, h2⟩
theorem ref_then {w w2 w3 : World} {base : Nat} (k : Fr (RefS w base) w w2) (k3 : Fr (RefS w2 base) w2 w3) : Fr (RefS w base) w w3 := k.then_ k3 (fun i hi h => RefS.back k hi h)

theorem sAt_of {l : List Fl} {f : Int} {x : Fl} (h : look l f = some x) : sAt l f = x.s ∧ nAt l f = x.n := by
  unfold sAt nAt; rw [h]; exact ⟨rfl, rfl⟩
theorem sAt_none {l : List Fl} {f : Int} (h : look l f = none) : sAt l f = ⟨#[]⟩ ∧ nAt l f = 0 := by
  unfold sAt nAt; rw [h]; exact ⟨rfl, rfl⟩

set_option maxHeartbeats 2000000 in
theorem rappend_calls {w : World} {base g : Nat} {v : Value} {d : Dk} (h : RefAt w base g v d) (ok : d.Ok) (hb : base ≤ w.heap.size) (f : Int) (s : ByteArray) (hs : s.size ≤ 1000000) :
    Calls Try.prog 22 #[.pointer (some ⟨g, 0, none⟩), .int .i64 f, .string s] w fun e w' => e = .returned (.int .i64 (d.appendE f s)) ∧ RefTo w w' base g (d.append f s) := by
  have hby := ok.bytes
  by_cases hw : d.wrong f = 0
  · have hb0 : (d.wrong f != 0) = false := by simpa using hw
    have hsum : IntKind.i64.wrap ((bytes d.files : Int) + (s.size : Int)) = (bytes d.files : Int) + s.size := IntWalk.i64_in _ (by omega)
    have hbb : bytes d.files ≤ 1000000000 := by omega
    have c1 := h.c1
    have Hw := Lib.hid hw; clear hw
    go_enter Try.func22, Try.ntmps22
    go_wp2_with (first | (go_at_call 55; refine (rwrong_calls h f).mono ?_; rintro e w' ⟨rfl, rfl⟩))
    go_region_held3 (fun w' => w'.cell? ⟨g, 1, none⟩ = some (.int .i64 d.limit)) (first | go_keep | (exact (RefAt.drew h).c1))
      (first | (go_at_call 35; refine (rsize_calls (base := base) (v := v) (d := d) ?_ ?_).mono ?_; (exact h.drew); (exact hbb); rintro e w1 ⟨rfl, rfl⟩))
    by_cases hfull : d.limit < (bytes d.files : Int) + (s.size : Int)
    · have E := Lib.hid (Dk.append_full Hw.out hfull)
      go_wp2
      go_ret
      exact ⟨by rw [E.out.1]; rfl, by rw [E.out.2]; exact ⟨v, d, h.drew, Alike.refl d, (Fr.refl _ w).drew⟩⟩
    · have E := Lib.hid (Dk.append_goes (s := s) Hw.out (by omega))
      have hp := plc_le d.files f
      have hfew := h.few
      cases hi : isAt d.files f with
      | true =>
        obtain ⟨x, hx1, hx2, hx3⟩ := isAt_some hi
        have hv : atV d.files f = .tuple #[.int .i64 (plc d.files f), .bool true] := by unfold atV; rw [hi]
        go_wp2_with (first | (go_at_call 56; refine (at_calls h.drew f).mono ?_; rintro e w' ⟨rfl, nd, rfl⟩; rw [hv]))
        obtain ⟨A, c, rfl⟩ := h.slice
        obtain ⟨ad, rfl, hab, _, k0, k1, k2, kf, had⟩ := h.file hx1
        have c0 := h.c0
        have kf1 := kf ((ad.add (plc d.files f * 3)).off + 1)
        have hpl : (plc d.files f : Int) < (d.files.length : Int) := by have := (List.getElem?_eq_some_iff.1 hx1).1; omega
        have Hx := Lib.hid hx1
        have Hi := Lib.hid hi
        obtain ⟨e1, e2⟩ := sAt_of hx3
        have hxs : x.s.size ≤ 16777216 := by rw [← e1]; exact ok.sAt f
        have hcat : ∀ W : World, (Op.stringOp .add x.s s).run Try.prog W = .ok (.string (x.s ++ s)) W := fun W => run_string_add_sum W x.s s (by omega)
        have hput := (h.drewN (1 + nd)).drew.put hx1 ⟨f, x.s ++ s, x.n⟩ hx2.symm 1 (by decide) (.string (x.s ++ s)) (by rw [hx2]; rfl)
        have hlay : lay d.files ⟨f, sAt d.files f ++ s, nAt d.files f⟩ = d.files.set (plc d.files f) ⟨f, x.s ++ s, x.n⟩ := by rw [e1, e2]; exact lay_set h.srt hi rfl
        have Hlay := Lib.hid hlay
        have Hput := Lib.hid hput
        clear hput hlay hi hx1 hx2 hx3 e1 e2 hv kf
        refine wp_tail 17 (by kernel_rfl) (by kernel_rfl) ?_
        simp only [List.take_succ_cons, List.take_zero, List.drop_succ_cons, List.drop_zero]
        repeat still_step
        refine wpStill_nil ?_
        have kf2 := ((Fr.refl (RefS w base) w).drewN (1 + nd)).drew.setCell (p := ⟨(ad.add (plc d.files f * 3)).block, (ad.add (plc d.files f * 3)).off + 1, none⟩) (fun _ => Hput.out.2) (.string (x.s ++ s))
        cases hdd : d.step.dead with
        | true =>
          go_wp2_with fail
          refine (rstep_calls Hput.out.1 ok.arm0 ok.arm1).mono ?_
          rintro e w3 ⟨he, h3, k3⟩
          have he2 : e = .returned (.bool false) := by rw [he]; show Ending.returned (.bool (!d.step.dead)) = _; rw [hdd]; rfl
          subst he2
          have Hdd := Lib.hid hdd
          clear he hdd
          go_wp2
          go_ret
          refine ⟨by rw [E.out.1, (Dk.changed_dead (f := f) (D := d) Hdd.out).2]; rfl, _, _, h3, ?_, ref_then kf2 k3⟩
          rw [E.out.2]
          exact Alike.step ⟨by show List.Perm _ (lay d.files _); rw [Hlay.out], rfl, rfl, rfl, rfl⟩
        | false =>
          go_wp2_with fail
          refine (rstep_calls Hput.out.1 ok.arm0 ok.arm1).mono ?_
          rintro e w3 ⟨he, h3, k3⟩
          have he2 : e = .returned (.bool true) := by rw [he]; show Ending.returned (.bool (!d.step.dead)) = _; rw [hdd]; rfl
          subst he2
          have Hdd := Lib.hid hdd
          clear he hdd
          go_wp2
          go_ret
          refine ⟨by rw [E.out.1]; unfold Dk.stepE; rw [Hdd.out]; rfl, _, _, h3, ?_, ref_then kf2 k3⟩
          rw [E.out.2]
          exact Alike.step ⟨by show List.Perm _ (lay d.files _); rw [Hlay.out], rfl, rfl, rfl, rfl⟩
      | false =>
        have hv : atV d.files f = .tuple #[.int .i64 (plc d.files f), .bool false] := by unfold atV; rw [hi]
        obtain ⟨A, c, rfl⟩ := h.slice
        have c0 := h.c0
        have hpl : (plc d.files f : Int) ≤ (d.files.length : Int) := by omega
        have Hi := Lib.hid hi
        obtain ⟨e1, e2⟩ := sAt_none (isAt_none h.srt hi)
        have hlay := rlay_new (y := ⟨f, ⟨#[]⟩ ++ s, 0⟩) h.srt hi rfl
        rw [← e1, ← e2] at hlay
        have Hlay := Lib.hid hlay
        clear hlay hi e1 e2
        have hf01 : 0 ≤ f ∧ f < 65536 := by
          have := Hw.out
          unfold Dk.wrong at this
          split at this
          · cases this
          · split at this
            · cases this
            · omega
        have hcap := h.cap
        have hcl : d.files.length ≤ c := by omega
        have hs1 : ∀ W : World, (Instr.slice 80 (.slice A d.files.length c) none (some (.int .i64 (plc d.files f : Int))) none).run Try.prog W = .ok (.slice A (plc d.files f) c) W := by
          obtain ⟨i0, hi0, _, hsz, _⟩ := info_parts info87
          intro W
          exact cut_to (P := Try.prog) 80 87 .i64 Try.underlying80 hi0 A d.files.length c (plc d.files f : Int) (by omega) hpl hcl W
        obtain ⟨A3, hA3⟩ : ∃ A3, A3 = (if c = plc d.files f then A else A.map (·.add (plc d.files f * 3))) := ⟨_, rfl⟩
        have hs3 : ∀ W : World, (Instr.slice 80 (.slice A d.files.length c) (some (.int .i64 (plc d.files f : Int))) none none).run Try.prog W = .ok (.slice A3 (d.files.length - plc d.files f) (c - plc d.files f)) W := by
          obtain ⟨i0, hi0, _, hsz, _⟩ := info_parts info87
          intro W
          rw [hA3]
          exact cut_from (P := Try.prog) 80 87 .i64 Try.underlying80 hi0 3 hsz A d.files.length c (plc d.files f : Int) (by omega) hpl W
        have hA3' := Lib.hid hA3; clear hA3
        obtain ⟨dI, hdI⟩ : ∃ dI : Dk, dI = { d with files := d.files.take (plc d.files f) ++ [⟨f, ⟨#[]⟩, 0⟩] ++ d.files.drop (plc d.files f) } := ⟨_, rfl⟩
        have hsrt := srt_new (y := ⟨f, ⟨#[]⟩, 0⟩) h.srt Hi.out rfl
        have hkeys : ∀ x ∈ d.files.take (plc d.files f) ++ [⟨f, ⟨#[]⟩, 0⟩] ++ d.files.drop (plc d.files f), 0 ≤ x.k ∧ x.k < 65536 := by
          intro x hx
          simp only [List.mem_append, List.mem_singleton] at hx
          rcases hx with (hx | hx) | hx
          · exact h.keys x (List.mem_of_mem_take hx)
          · subst hx; exact hf01
          · exact h.keys x (List.mem_of_mem_drop hx)
        have Hs := Lib.hid hsrt; have Hk := Lib.hid hkeys; have Hd := Lib.hid hdI
        clear hsrt hkeys hdI
        have main : ∀ nd, ∃ v1 w1 v2 w2 v3 w3, (Builtin.append_ #[80, 80] 80 #[.slice none 0 0, .slice A (plc d.files f) c]).run Try.prog (w.drewN nd) = .ok v1 w1 ∧
            (Builtin.append_ #[80, 80] 80 #[v1, .slice (some ⟨w1.heap.size, 0, none⟩) 1 1]).run Try.prog (w1.alloc (.cells #[.int .i64 f, .string ⟨#[]⟩, .int .i64 0] 87)) = .ok v2 w2 ∧
            (Builtin.append_ #[80, 80] 80 #[v2, .slice A3 (d.files.length - plc d.files f) (c - plc d.files f)]).run Try.prog w2 = .ok v3 w3 ∧
            w2.cell? ⟨g, 0, none⟩ = some (.slice A d.files.length c) ∧ w3.cell? ⟨g, 0, none⟩ = some (.slice A d.files.length c) ∧ w3.frozen? ⟨g, 0, none⟩ = false ∧ RefAt (w3.setCell ⟨g, 0, none⟩ v3) base g v3 dI ∧ Fr (RefS w base) w (w3.setCell ⟨g, 0, none⟩ v3) := by
          intro nd
          have hW0 := h.drewN nd
          obtain ⟨hlg, hlv⟩ := hW0.lt
          have htl : (d.files.take (plc d.files f)).length = plc d.files f := by rw [List.length_take]; omega
          obtain ⟨v1, w1, r1, o1, k1, b1⟩ := app_run (w := w.drewN nd) (base := base) (v := .slice none 0 0) (l := []) (own_nil _ _ _ _) hb A (plc d.files f) c _ (hW0.front (plc d.files f)) htl (by simp) (by omega)
          have hW1 := hW0.fr2 k1 (by simp [Value.ownBlock]) (fun b _ => by simp [Value.ownBlock])
          have ka := (Fr.refl (fun _ => False) w1).alloc (.cells #[.int .i64 f, .string ⟨#[]⟩, .int .i64 0] 87)
          have hW1a := hW1.fr2 ka id (fun _ _ => id)
          have o1a := own_fr o1 ka (fun _ _ => id)
          have hb1 : base ≤ w1.heap.size := Nat.le_trans hb k1.size
          obtain ⟨v2, w2, r2, o2, k2, b2⟩ := app_run o1a (by simpa using Nat.le_succ_of_le hb1) (some ⟨w1.heap.size, 0, none⟩) 1 1 [⟨f, ⟨#[]⟩, 0⟩] (Reads.box w1 ⟨f, ⟨#[]⟩, 0⟩) rfl (by simp; omega) (by omega)
          have n1 : ∀ b, b < (w.drewN nd).heap.size → ¬ v1.ownBlock = some b := by
            intro b hb e
            rcases b1 with h1 | h1
            · rw [h1] at e; cases e
            · rw [h1] at e; injection e with e; omega
          have hW2 := hW1a.fr2 k2 (n1 g hlg) (fun b hb' => n1 b (hlv b hb'))
          have k1' : Fr (fun _ => False) (w.drewN nd) w1 := k1.mono (fun k _ hk => by simp [Value.ownBlock] at hk)
          have n2 : ∀ b, b < (w.drewN nd).heap.size → ¬ v2.ownBlock = some b := by
            intro b hb e
            rcases b2 with h1 | h1
            · rw [h1] at e; exact n1 b hb e
            · rw [h1] at e; injection e with e
              have := k1.size
              simp at e
              omega
          obtain ⟨v3, w3, r3, o3, k3, b3⟩ := app_run o2 (Nat.le_trans hb1 (Nat.le_trans (by simp) k2.size)) A3 (d.files.length - plc d.files f) (c - plc d.files f) (d.files.drop (plc d.files f)) (by rw [hA3'.out]; exact hW2.back _ hp) (by rw [List.length_drop]) (by simp; omega) (by omega)
          have hW3 := hW2.fr2 k3 (n2 g hlg) (fun b hb' => n2 b (hlv b hb'))
          have kall : Fr (fun _ => False) (w.drewN nd) w3 := ((k1'.alloc _).then_ k2 (fun i hi e => n1 i hi e)).then_ k3 (fun i hi e => n2 i hi e)
          refine ⟨v1, w1, v2, w2, v3, w3, r1, r2, r3, hW2.c0, hW3.c0, free_blk hW3.blk 0, ?_, ?_⟩
          · rw [Hd.out]
            exact hW3.row_set _ (by simpa using o3) Hs.out Hk.out
          · exact (((Fr.refl (fun _ => False) w).drewN nd).trans kall).none_.setCell (fun _ => h.inS) _
        have Hmain := Lib.hid main
        clear main
        have hIl : dI.files = d.files.take (plc d.files f) ++ [⟨f, ⟨#[]⟩, 0⟩] ++ d.files.drop (plc d.files f) := by rw [Hd.out]
        obtain ⟨hset, hget⟩ := set_mid (d.files.take (plc d.files f)) (d.files.drop (plc d.files f)) ⟨f, ⟨#[]⟩, 0⟩ ⟨f, s, 0⟩ (plc d.files f) (by rw [List.length_take]; omega)
        rw [← hIl] at hset hget
        have hIlen : dI.files.length = d.files.length + 1 := by rw [hIl]; simp; omega
        have hcat : ∀ W : World, (Op.stringOp .add ⟨#[]⟩ s).run Try.prog W = .ok (.string s) W := fun W => (run_string_add_sum W ⟨#[]⟩ s (by show 0 + _ ≤ _; omega)).trans (by rw [show (⟨#[]⟩ : ByteArray) ++ s = s from ByteArray.empty_append])
        have hpl2 : (plc d.files f : Int) < (dI.files.length : Int) := by omega
        have Hset := Lib.hid hset; have Hget := Lib.hid hget; have HIl := Lib.hid hIl
        clear hset hget hIl hIlen
        go_wp2_with (first | (go_at_call 56; refine (at_calls h.drew f).mono ?_; rintro e w' ⟨rfl, nd, rfl⟩; rw [hv]; obtain ⟨v1, w1, v2, w2, v3, w3, r1, r2, r3, c02, c03, f03, hI, kI⟩ := Hmain.out (1 + nd); obtain ⟨A4, c4, rfl⟩ := hI.slice; obtain ⟨ad, rfl, hab, _, k0, k1, k2, kf, had⟩ := hI.file Hget.out; have c04 := hI.c0; have kf1 := kf ((ad.add (plc d.files f * 3)).off + 1); have HI := Lib.hid hI; have KI := Lib.hid kI; clear hI kI kf) | (at_builtin; first | refine wp_app rfl _ _ rfl rfl rfl rfl r1 ?_ | refine wp_app rfl _ _ rfl rfl rfl rfl r2 ?_ | refine wp_app rfl _ _ rfl rfl rfl rfl r3 ?_))
        refine wp_tail 17 (by kernel_rfl) (by kernel_rfl) ?_
        simp only [List.take_succ_cons, List.take_zero, List.drop_succ_cons, List.drop_zero]
        repeat still_step
        refine wpStill_nil ?_
        have hput := HI.out.drew.put Hget.out ⟨f, s, 0⟩ rfl 1 (by decide) (.string s) rfl
        have Hput := Lib.hid hput
        clear hput
        have kf2 := KI.out.drew.then_ ((Fr.refl (RefS _ base) _).setCell (p := ⟨(ad.add (plc d.files f * 3)).block, (ad.add (plc d.files f * 3)).off + 1, none⟩) (fun _ => Hput.out.2) (.string s)) (fun i hi hS => RefS.back KI.out.drew hi hS)
        have hdI : dI.step.dead = d.step.dead := by rw [Hd.out]; rfl
        have hal : Alike (d.put ⟨f, sAt d.files f ++ s, nAt d.files f⟩) { dI with files := dI.files.set (plc d.files f) ⟨f, s, 0⟩ } := by
          refine ⟨?_, by rw [Hd.out]; rfl, by rw [Hd.out]; rfl, by rw [Hd.out]; rfl, by rw [Hd.out]; rfl⟩
          show (dI.files.set _ _).Perm (lay d.files _)
          rw [Hset.out]
          have := Hlay.out
          rw [(sAt_none (isAt_none h.srt Hi.out)).1, (sAt_none (isAt_none h.srt Hi.out)).2, show (⟨#[]⟩ : ByteArray) ++ s = s from ByteArray.empty_append] at this ⊢
          exact this
        have Hal := Lib.hid hal
        clear hal
        have ha0 : 0 ≤ dI.armed := by rw [Hd.out]; exact ok.arm0
        have ha1 : dI.armed ≤ 9223372036854775807 := by rw [Hd.out]; exact ok.arm1
        cases hdd : d.step.dead with
        | true =>
          go_wp2_with fail
          refine (rstep_calls Hput.out.1 ha0 ha1).mono ?_
          rintro e w3 ⟨he, h3, k3⟩
          have he2 : e = .returned (.bool false) := by rw [he]; show Ending.returned (.bool (!dI.step.dead)) = _; rw [hdI, hdd]; rfl
          subst he2
          have Hdd := Lib.hid hdd
          clear he hdd hdI
          go_wp2
          go_ret
          refine ⟨by rw [E.out.1, (Dk.changed_dead (f := f) (D := d) Hdd.out).2]; rfl, _, _, h3, ?_, ref_then kf2 k3⟩
          rw [E.out.2]
          exact Hal.out.step
        | false =>
          go_wp2_with fail
          refine (rstep_calls Hput.out.1 ha0 ha1).mono ?_
          rintro e w3 ⟨he, h3, k3⟩
          have he2 : e = .returned (.bool true) := by rw [he]; show Ending.returned (.bool (!dI.step.dead)) = _; rw [hdI, hdd]; rfl
          subst he2
          have Hdd := Lib.hid hdd
          clear he hdd hdI
          go_wp2
          go_ret
          refine ⟨by rw [E.out.1]; unfold Dk.stepE; rw [Hdd.out]; rfl, _, _, h3, ?_, ref_then kf2 k3⟩
          rw [E.out.2]
          exact Hal.out.step
  · have hb0 : (d.wrong f != 0) = true := by simpa using hw
    go_enter Try.func22, Try.ntmps22
    go_wp2_with (first | (go_at_call 55; refine (rwrong_calls h f).mono ?_; rintro e w' ⟨rfl, rfl⟩))
    go_ret
    exact ⟨by rw [(Dk.append_wrong s hw).1]; rfl, by rw [(Dk.append_wrong s hw).2]; exact ⟨v, d, h, Alike.refl d, Fr.refl _ w⟩⟩

end Go.Proofs.Ytljfagagopaidaa
