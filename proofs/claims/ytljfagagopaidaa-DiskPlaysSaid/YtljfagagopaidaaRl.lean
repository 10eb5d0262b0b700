/- The document's disk: Files, walked. -/
import Derived.Test.YtljfagagopaidaaRf
import Derived.Test.YtljfagagopaidaaFi
namespace Go.Proofs.Ytljfagagopaidaa
open Go.RowKit Go.Proofs.YtljfagagopaidaaW.PrintWords
set_option linter.unusedSimpArgs false
set_option linter.unusedVariables false
set_option maxRecDepth 100000

theorem infoI : (Try.prog.info? 3).map (fun i => (i.zero, i.size, i.bytes)) = some (some (.int .i64 0), 1, 8) := by kernel_rfl
theorem own_lo {w : World} {base e size n : Nat} {v : Value} {xs : List Value} (h : w.ownsRow base e size v n xs) (a : Addr) (m c : Nat) (hv : v = .slice (some a) m c) : base ≤ a.block := (own_block h a.block (by rw [hv]; rfl)).1

set_option maxHeartbeats 1000000 in
theorem rfiles_calls {w : World} {base g : Nat} {v : Value} {d : Dk} (h : RefAt w base g v d) :
    Calls Try.prog 33 #[.pointer (some ⟨g, 0, none⟩)] w fun e w' => ∃ A c, e = .returned (.slice A d.files.length c) ∧ d.files.length ≤ c ∧ (Kd.int .i64).C w' A d.files.length (d.files.map Fl.k) ∧ Fr (fun _ => False) w w' := by
  obtain ⟨A, c, rfl⟩ := h.slice
  have hfew := h.few
  go_enter Try.func33, Try.ntmps33
  go_wp2
  go_loopg [3, 4] d.files.length (fun kq v3 v4 wr => ∃ i : Nat, kq + i = d.files.length ∧ v4 = .int .i64 i ∧ wr.ownsRow w.heap.size 3 1 v3 ((d.files.map Fl.k).take i).length (nums .i64 ((d.files.map Fl.k).take i)) ∧ Below w.heap.size w wr)
  case atStart => exact ⟨0, by omega, rfl, own_nil _ _ _ _, Below.refl _ w⟩
  case round =>
    obtain ⟨i, hi, rfl, hown, hb⟩ := hrel
    have hr := h.fr (Fr.of_below hb) (S := fun _ => False) (fun _ _ => id)
    have hc0 := hr.c0
    rcases Nat.lt_or_ge i d.files.length with hlt | hge
    · obtain ⟨x, hx⟩ : ∃ x, d.files[i]? = some x := ⟨_, List.getElem?_eq_getElem hlt⟩
      obtain ⟨ad, rfl, _, _, k0, _⟩ := hr.file hx
      have hl2 : (i : Int) < (d.files.length : Int) := by omega
      have hst : (d.files.map Fl.k).take (i + 1) = (d.files.map Fl.k).take i ++ [x.k] := by
        rw [List.take_add_one, List.getElem?_map, hx]
        rfl
      have hln : ((d.files.map Fl.k).take i).length = i := by simp; omega
      have Hst := Lib.hid hst
      clear hst hx
      go_wp2_with (at_builtin; refine print_append_num (w0 := w) (e := 3) (k := .i64) (bytes := 8) (t := 41) w.heap.size rfl (.tmp 14) (.tmp 23) rfl Try.underlying41 infoI (by decide) _ ((d.files.map Fl.k).take i) x.k rfl rfl hown hb hb.size (by rw [hln]; omega) ?_; intro v1 w1 ho hb1 hg hat)
      go_roundg (d.files.length - (i + 1))
      case measure => omega
      case rel => exact ⟨i + 1, by omega, by go_num, by rw [Hst.out]; exact ho, hb1⟩
    · have hl1 : ¬ ((i : Int) < (d.files.length : Int)) := by omega
      have hpe : (d.files.map Fl.k).take i = d.files.map Fl.k := by rw [List.take_of_length_le (by simpa using hge)]
      rw [hpe] at hown
      obtain ⟨A2, c2, he, hl, hC⟩ := Kd.R_reads (d := Kd.int .i64) (ok := fun _ => True) (Kd.R_of_own (h1 := fun _ => rfl) hown (fun _ _ => trivial))
      subst he
      rw [List.length_map] at hl hC
      go_wp2
      go_ret
      exact ⟨A2, c2, rfl, hl, hC, (Fr.of_below hb)⟩

end Go.Proofs.Ytljfagagopaidaa
