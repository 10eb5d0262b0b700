/- Two lists of texts that are read: are they the same; is a list not too great. -/
import Derived.Test.YtljfagagopaidaaLh1
import Derived.Test.YtljfagagopaidaaDb
import Derived.Lib.Strings
namespace Go.Proofs.Ytljfagagopaidaa
open Go.RowKit Go.Proofs.YtljfagagopaidaaW.PrintWords
set_option linter.unusedSimpArgs false
set_option linter.unusedVariables false

theorem toList_inj' {a b : ByteArray} : a.toList = b.toList ↔ a = b := by
  rw [Lib.toList_data, Lib.toList_data]
  constructor
  · intro h
    apply ByteArray.ext
    exact Array.toList_inj.1 h
  · rintro rfl; rfl
theorem wrap_nat' {i n : Nat} (h : i < n) (hn : n ≤ 9223372036854775807) : wrap64 ((i : Int) + 1) = ((i + 1 : Nat) : Int) := by
  unfold wrap64
  omega
theorem rdOf_get {l : List ByteArray} {i : Nat} (h : i < l.length) : rdOf ByteArray.empty l (i : Int) = l[i] := by
  unfold rdOf
  rw [Int.toNat_natCast, List.getD_eq_getElem?_getD, List.getElem?_eq_getElem h]
  rfl

theorem texts_loop (l0 l1 : List ByteArray) (h0 : l0.length ≤ 9223372036854775807) (hl : l0.length = l1.length) : ∀ (d i k : Nat), i + d = l0.length → d < k → Lh.vitrinelaw17_texts.l0 k l0 l1 i = some (decide (l0.drop i = l1.drop i))
  | 0, i, k, hi, hk => by
    obtain ⟨k, rfl⟩ : ∃ m, k = m + 1 := ⟨k - 1, by omega⟩
    simp only [Lh.vitrinelaw17_texts.l0]
    rw [if_neg (by omega), List.drop_of_length_le (by omega), List.drop_of_length_le (by omega)]
    simp
  | d + 1, i, k, hi, hk => by
    obtain ⟨k, rfl⟩ : ∃ m, k = m + 1 := ⟨k - 1, by omega⟩
    have hi0 : i < l0.length := by omega
    have hi1 : i < l1.length := by omega
    simp only [Lh.vitrinelaw17_texts.l0]
    rw [if_pos (by omega), if_pos (by omega), if_pos (by omega), rdOf_get hi0, rdOf_get hi1, List.drop_eq_getElem_cons hi0, List.drop_eq_getElem_cons hi1]
    by_cases h : l0[i] = l1[i]
    · rw [if_pos (toList_inj'.2 h), wrap_nat' hi0 h0, texts_loop l0 l1 h0 hl d (i + 1) k (by omega) (by omega)]
      exact congrArg some (decide_eq_decide.2 (by rw [List.cons.injEq]; exact ⟨fun e => ⟨h, e⟩, And.right⟩))
    · rw [if_neg (fun e => h (toList_inj'.1 e))]
      exact congrArg some (decide_eq_false (by rw [List.cons.injEq]; exact fun e => h e.1)).symm

theorem texts_f (l0 l1 : List ByteArray) (h0 : l0.length ≤ 9223372036854775807) : Lh.vitrinelaw17_texts.f (l0.length + 1) l0 l1 = some (decide (l0 = l1)) := by
  unfold Lh.vitrinelaw17_texts.f
  by_cases hl : l0.length = l1.length
  · rw [if_pos (by omega)]
    have := texts_loop l0 l1 h0 hl l0.length 0 (l0.length + 1) (by omega) (by omega)
    simpa using this
  · rw [if_neg (by omega)]
    have : l0 ≠ l1 := fun e => hl (by rw [e])
    simp [this]

theorem Fr.of_drawn' {w w' : World} (h : Drawn0 w w') (S : Nat → Prop) : Fr S w w' := by
  obtain ⟨n, rfl⟩ := h
  exact (Fr.refl S w).drewN n

theorem texts_calls (A0 : Option Addr) (c0 : Nat) (l0 : List ByteArray) (A1 : Option Addr) (c1 : Nat) (l1 : List ByteArray) (w : World) (hr0 : Kd.string.C w A0 l0.length l0) (hc0 : l0.length ≤ c0) (hr1 : Kd.string.C w A1 l1.length l1) (hc1 : l1.length ≤ c1) :
    Calls Try.prog 44 #[.slice A0 l0.length c0, .slice A1 l1.length c1] w fun e w' => e = .returned (.bool (decide (l0 = l1))) ∧ Fr (fun _ => False) w w' :=
  (Lh.vitrinelaw17_texts.calls _ A0 c0 l0 A1 c1 l1 _ w hr0 hc0 hr1 hc1 (texts_f l0 l1 hr0.2.1)).mono fun _ _ ⟨he, hd⟩ => ⟨he, Fr.of_drawn' hd _⟩

/-- How great a list of texts is. -/
def sumT (l : List ByteArray) : Nat := (l.map fun r => 1 + r.size).sum
def fewB (l : List ByteArray) : Bool := decide (sumT l ≤ 2000)
theorem sumT_cons (r : ByteArray) (l : List ByteArray) : sumT (r :: l) = 1 + r.size + sumT l := by simp [sumT]
theorem few_loop (l0 : List ByteArray) (h0 : l0.length ≤ 9223372036854775807) (hz : ∀ r ∈ l0, r.size ≤ 140737488351232) : ∀ (d i k n : Nat), i + d = l0.length → d < k → n ≤ 2000 → Lh.vitrinelaw17_few.l0 k l0 n i = some (decide (n + sumT (l0.drop i) ≤ 2000))
  | 0, i, k, n, hi, hk, hn => by
    obtain ⟨k, rfl⟩ : ∃ m, k = m + 1 := ⟨k - 1, by omega⟩
    simp only [Lh.vitrinelaw17_few.l0]
    rw [if_neg (by omega), List.drop_of_length_le (by omega)]
    have : decide (n + sumT ([] : List ByteArray) ≤ 2000) = true := decide_eq_true (by simp [sumT]; omega)
    rw [this]
  | d + 1, i, k, n, hi, hk, hn => by
    obtain ⟨k, rfl⟩ : ∃ m, k = m + 1 := ⟨k - 1, by omega⟩
    have hi0 : i < l0.length := by omega
    have hr := hz _ (List.getElem_mem hi0)
    have hw : wrap64 (wrap64 ((n : Int) + 1) + ((l0[i].size : Nat) : Int)) = ((n + (1 + l0[i].size) : Nat) : Int) := by unfold wrap64; omega
    simp only [Lh.vitrinelaw17_few.l0]
    rw [rdOf_get hi0, if_pos (by omega), if_pos (by omega), hw, List.drop_eq_getElem_cons hi0, sumT_cons]
    clear hw
    by_cases h : n + (1 + l0[i].size) ≤ 2000
    · rw [if_neg (by omega), wrap_nat' hi0 h0, few_loop l0 h0 hz d (i + 1) k (n + (1 + l0[i].size)) (by omega) (by omega) h]
      exact congrArg some (decide_eq_decide.2 (by omega))
    · rw [if_pos (by omega)]
      exact congrArg some (decide_eq_false (by omega)).symm
theorem few_calls (A0 : Option Addr) (c0 : Nat) (l0 : List ByteArray) (w : World) (hr0 : Kd.string.C w A0 l0.length l0) (hc0 : l0.length ≤ c0) (hz : ∀ r ∈ l0, r.size ≤ 140737488351232) :
    Calls Try.prog 39 #[.slice A0 l0.length c0] w fun e w' => e = .returned (.bool (fewB l0)) ∧ Fr (fun _ => False) w w' := by
  refine (Lh.vitrinelaw17_few.calls (l0.length + 1) A0 c0 l0 (fewB l0) w hr0 hc0 ?_).mono fun _ _ ⟨he, hd⟩ => ⟨he, Fr.of_drawn' hd _⟩
  unfold Lh.vitrinelaw17_few.f
  have := few_loop l0 hr0.2.1 hz l0.length 0 (l0.length + 1) 0 (by omega) (by omega) (by omega)
  simpa [fewB] using this

end Go.Proofs.Ytljfagagopaidaa
