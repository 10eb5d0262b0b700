/- The disk's size, walked. -/
import Derived.Test.YtljfagagopaidaaDk
import Derived.Deep.LoopGhost
namespace Go.Proofs.Ytljfagagopaidaa
open Go.RowKit
set_option linter.unusedSimpArgs false
set_option linter.unusedVariables false

set_option maxHeartbeats 400000 in
theorem size_calls {w : World} {g m : Nat} {d : Dk} (h : DiskAt w g m d) (hs : bytes d.files ≤ 1099511627776) :
    Calls Try.prog 34 #[.pointer (some ⟨g, 0, none⟩)] w fun e w' => e = .returned (.int .i64 (bytes d.files)) ∧ DiskAt w' g m d ∧ Fr (fun _ => False) w w' := by
  have c0 : w.cell? ⟨g, 0, none⟩ = some (.map (some m)) := (cell_blk h.blk 0).trans rfl
  go_enter Try.func34, Try.ntmps34
  go_wp2_with (first | (at_range; refine wp_range rfl _ rfl h.map rfl ?_; intro w0 hrg0 hg0 hs0) | go_in)
  go_frame
  have hne : w.heap.size ≠ g := fun e => by have := lt_blk h.blk; omega
  have hnm : w.heap.size ≠ m := fun e => by have := h.map.lt; omega
  have hw0 : DiskAt w0 g m d := h.fr hg0 id id
  obtain ⟨r, hr⟩ : ∃ r, r = w.heap.size := ⟨_, rfl⟩
  rw [← hr] at hrg0 hne hnm ⊢
  have Hr := Lib.hid hr; clear hr
  clear hs0
  go_loopg [3] d.files.length (fun kq v wr => ∃ left : List Fl, kq = left.length ∧ v = .int .i64 ((bytes d.files : Int) - bytes left) ∧ Ranges wr r m d.files left ∧ DiskAt wr g m d ∧ Fr (fun _ => False) w wr ∧ Hid (bytes left ≤ bytes d.files))
  case atStart => exact ⟨d.files, rfl, by simp, hrg0, hw0, hg0, Nat.le_refl _⟩
  case round =>
    obtain ⟨left, rfl, rfl, hrg, hdk, hfr, hle⟩ := hrel
    go_wp2_with (first | (at_next; refine wp_next rfl _ rfl hrg rfl ?_ ?_) | go_in)
    · intro hl
      subst hl
      go_wp2
      go_ret
      exact ⟨by simp [bytes], hdk, hfr⟩
    · intro x left' w1 hperm hrg1 hfr1 hsz1 hen
      have hb : bytes left = x.s.size + bytes left' := by rw [bytes_perm hperm]; simp [bytes]
      have hlen : left.length = left'.length + 1 := by rw [hperm.length_eq]; rfl
      have hle' : (bytes left : Int) ≤ bytes d.files := by have := hle.out; omega
      have hx : (x.s.size : Int) ≤ 1099511627776 := by have := hle.out; omega
      have hsi : (bytes d.files : Int) ≤ 1099511627776 := by omega
      have Hb := Lib.hid hb; clear hb
      have Hl := Lib.hid hlen; clear hlen hsz1
      have hdk1 : DiskAt w1 g m d := hdk.fr hfr1 hne.symm hnm.symm
      have hf1 : Fr (fun _ => False) w w1 := hfr.then_ hfr1 (fun i hi e => by have := Hr.out; omega)
      have hrm : m ≠ r := hnm.symm
      go_wp2
      go_roundg left'.length
      case measure => have := Hl.out; omega
      case rel =>
        refine ⟨left', rfl, ?_, ?_, ?_, ?_, ?_⟩
        · have := Hb.out
          exact congrArg (Value.int .i64) (by omega)
        · exact hrg1.fr ((Fr.refl (fun _ => False) _).alloc _) id id
        · exact hdk1.alloc _
        · exact hf1.alloc _
        · have := Hb.out
          have := hle.out
          show _ ≤ _
          omega
end Go.Proofs.Ytljfagagopaidaa
