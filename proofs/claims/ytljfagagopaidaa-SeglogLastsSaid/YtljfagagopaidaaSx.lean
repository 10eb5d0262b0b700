/- A disk without its count of steps, what each step makes of it, and what Open leaves on a disk that is not armed; no program in sight. -/
import Derived.Test.YtljfagagopaidaaLx
import Derived.Test.YtljfagagopaidaaBd
namespace Go.Proofs.Ytljfagagopaidaa
open Go.RowKit
set_option linter.unusedSimpArgs false
set_option linter.unusedVariables false

structure St (d : Dk) (fs : List Fl) (L a : Int) (b : Bool) : Prop where
  files : d.files = fs
  limit : d.limit = L
  armed : d.armed = a
  dead : d.dead = b
def armN (a : Int) : Int := if 0 < a then a - 1 else a
def diesE (a : Int) : Int := if a = 1 then 50 else 0

section
variable {d : Dk} {fs : List Fl} {L a : Int}
theorem St.step (h : St d fs L a false) (ha : 0 ≤ a) : St d.step fs L (armN a) (a == 1) ∧ d.stepE = diesE a := by
  have hd : d.step.dead = (a == 1) := by
    show (if 0 < d.armed then d.armed - 1 == 0 else d.dead) = _
    rw [h.armed, h.dead]
    by_cases h0 : 0 < a
    · rw [if_pos h0]
      by_cases h1 : a = 1
      · subst h1; rfl
      · rw [beq_eq_false_iff_ne.2 h1, beq_eq_false_iff_ne.2 (by omega)]
    · rw [if_neg h0, beq_eq_false_iff_ne.2 (by omega)]
  refine ⟨⟨h.files, h.limit, ?_, hd⟩, ?_⟩
  · show (if 0 < d.armed then d.armed - 1 else d.armed) = _
    rw [h.armed]
    rfl
  · unfold Dk.stepE diesE
    rw [hd]
    by_cases h1 : a = 1
    · subst h1; rfl
    · rw [beq_eq_false_iff_ne.2 h1, if_neg h1]
      rfl
theorem St.wrong (h : St d fs L a false) {F : Int} (hF : 0 ≤ F ∧ F < 65536) : d.wrong F = 0 := by
  unfold Dk.wrong
  rw [h.dead, if_neg (by simp), if_neg (by omega)]
theorem St.readS (h : St d fs L a false) {F : Int} (hF : 0 ≤ F ∧ F < 65536) : d.readS F = sAt fs F := by
  unfold Dk.readS
  rw [h.wrong hF, if_neg (by simp), h.files]
theorem St.append (h : St d fs L a false) (ha : 0 ≤ a) {F : Int} (hF : 0 ≤ F ∧ F < 65536) (s : ByteArray) (hs : ((bytes fs : Nat) : Int) + s.size ≤ L) :
    d.appendE F s = diesE a ∧ St (d.append F s) (lay fs ⟨F, sAt fs F ++ s, nAt fs F⟩) L (armN a) (a == 1) := by
  have hw := h.wrong hF
  obtain ⟨e1, e2⟩ := Dk.append_goes (s := s) hw (by rw [h.limit, h.files]; exact hs)
  rw [e1, e2]
  refine ⟨(h.step ha).2, ?_⟩
  have hp : St (d.put ⟨F, sAt d.files F ++ s, nAt d.files F⟩) (lay fs ⟨F, sAt fs F ++ s, nAt fs F⟩) L a false := ⟨by show lay d.files _ = _; rw [h.files], h.limit, h.armed, h.dead⟩
  exact (hp.step ha).1
theorem St.changeE (h : St d fs L a false) (ha : 0 ≤ a) {F : Int} (hF : 0 ≤ F ∧ F < 65536) : d.changeE F = diesE a := by
  unfold Dk.changeE
  rw [h.wrong hF, if_neg (by simp)]
  exact (h.step ha).2
/-- A change at which the disk dies. -/
theorem St.changed_dies {d : Dk} {fs : List Fl} {L : Int} (h : St d fs L 1 false) (F : Int) (D : Dk) : St (d.changed F D) fs L 0 true := by
  have hs := (h.step (by decide)).1
  unfold Dk.changed
  rw [hs.dead, if_pos (by decide)]
  exact hs
theorem St.changed_on (h : St d fs L a false) (ha : 0 ≤ a) (h1 : a ≠ 1) (F : Int) (D : Dk) (fs' : List Fl) (hD : (look fs F).isSome = true → St D fs' L (armN a) false) (hn : (look fs F).isSome = false → fs' = fs) : St (d.changed F D) fs' L (armN a) false := by
  have hs := (h.step ha).1
  have hb : (a == 1) = false := beq_eq_false_iff_ne.2 h1
  rw [hb] at hs
  unfold Dk.changed
  rw [hs.dead, if_neg (by simp), h.files]
  cases hl : (look fs F).isSome with
  | true => rw [if_pos rfl]; exact hD hl
  | false => rw [if_neg (by simp), hn hl]; exact hs
def syncL (fs : List Fl) (F : Int) : List Fl := if (look fs F).isSome then lay fs ⟨F, sAt fs F, (sAt fs F).size⟩ else fs
def cutL (fs : List Fl) (F k : Int) : List Fl := if (look fs F).isSome then lay fs ⟨F, cutS (sAt fs F) k, k⟩ else fs
theorem drop_away {l : List Fl} {F : Int} (h : (look l F).isSome = false) : drop l F = l := by
  unfold drop
  rw [List.filter_eq_self]
  intro x hx
  unfold look at h
  have hn : l.find? (fun x => x.k == F) = none := by
    cases hf : l.find? (fun x => x.k == F) with
    | none => rfl
    | some y => rw [hf] at h; cases h
  have := List.find?_eq_none.1 hn x hx
  simpa using this
theorem St.sync (h : St d fs L a false) (ha : 0 ≤ a) {F : Int} (hF : 0 ≤ F ∧ F < 65536) : (a = 1 → St (d.sync F) fs L 0 true) ∧ (a ≠ 1 → St (d.sync F) (syncL fs F) L (armN a) false) := by
  have hw := h.wrong hF
  have he : d.sync F = d.changed F (d.step.put ⟨F, sAt d.files F, (sAt d.files F).size⟩) := by unfold Dk.sync; rw [hw, if_neg (by simp)]
  rw [he]
  refine ⟨fun h1 => by subst h1; exact h.changed_dies F _, fun h1 => ?_⟩
  have hs := (h.step ha).1
  have hb : (a == 1) = false := beq_eq_false_iff_ne.2 h1
  rw [hb] at hs
  refine h.changed_on ha h1 F _ _ (fun hl => ?_) (fun hl => ?_)
  · unfold syncL
    rw [hl, if_pos rfl]
    exact ⟨by show lay d.step.files _ = _; rw [hs.files, h.files], hs.limit, hs.armed, hs.dead⟩
  · unfold syncL
    rw [hl]
    rfl
theorem St.dropped (h : St d fs L a false) (ha : 0 ≤ a) {F : Int} (hF : 0 ≤ F ∧ F < 65536) : (a = 1 → St (d.dropped F) fs L 0 true) ∧ (a ≠ 1 → St (d.dropped F) (drop fs F) L (armN a) false) := by
  have hw := h.wrong hF
  have he : d.dropped F = d.changed F (d.step.del F) := by unfold Dk.dropped; rw [hw, if_neg (by simp)]
  rw [he]
  refine ⟨fun h1 => by subst h1; exact h.changed_dies F _, fun h1 => ?_⟩
  have hs := (h.step ha).1
  have hb : (a == 1) = false := beq_eq_false_iff_ne.2 h1
  rw [hb] at hs
  refine h.changed_on ha h1 F _ _ (fun hl => ?_) (fun hl => drop_away hl)
  exact ⟨by show drop d.step.files F = _; rw [hs.files], hs.limit, hs.armed, hs.dead⟩
theorem St.cut (h : St d fs L a false) (ha : 0 ≤ a) {F k : Int} (hF : 0 ≤ F ∧ F < 65536) (hk0 : 0 ≤ k) (hk1 : k ≤ (sAt fs F).size) : d.cutE F k = diesE a ∧ (a = 1 → St (d.cut F k) fs L 0 true) ∧ (a ≠ 1 → St (d.cut F k) (cutL fs F k) L (armN a) false) := by
  have hw := h.wrong hF
  have hk1' : ¬ (((sAt d.files F).size : Int) < k) := by rw [h.files]; omega
  have he : d.cut F k = d.changed F (d.step.put ⟨F, cutS (sAt d.files F) k, k⟩) := by unfold Dk.cut; rw [hw, if_neg (by simp), if_neg (by omega), if_neg hk1']
  have hE : d.cutE F k = d.stepE := by unfold Dk.cutE; rw [hw, if_neg (by simp), if_neg (by omega), if_neg hk1']
  rw [he, hE]
  refine ⟨(h.step ha).2, fun h1 => by subst h1; exact h.changed_dies F _, fun h1 => ?_⟩
  have hs := (h.step ha).1
  have hb : (a == 1) = false := beq_eq_false_iff_ne.2 h1
  rw [hb] at hs
  refine h.changed_on ha h1 F _ _ (fun hl => ?_) (fun hl => ?_)
  · unfold cutL
    rw [hl, if_pos rfl]
    exact ⟨by show lay d.step.files _ = _; rw [hs.files, h.files], hs.limit, hs.armed, hs.dead⟩
  · unfold cutL
    rw [hl]
    rfl
end

/-! ### Open, on a disk that is not armed -/
def keptL (keep : Option Int) (l : List Int) (fs : List Fl) : List Fl := fs.filter fun x => keep == some x.k || !(l.contains x.k)
theorem dropAll_St {keep : Option Int} : ∀ (l : List Int) {d : Dk} {fs : List Fl} {L : Int}, St d fs L 0 false → (∀ f ∈ l, 0 ≤ f ∧ f < 65536) →
    (dropAll keep l d).1 = 0 ∧ St (dropAll keep l d).2 (keptL keep l fs) L 0 false
  | [], d, fs, L, h, _ => by
    have : keptL keep [] fs = fs := by unfold keptL; rw [List.filter_eq_self]; intro x _; simp
    rw [this]
    exact ⟨rfl, h⟩
  | f :: l, d, fs, L, h, hl => by
    have hf := hl f (by simp)
    have hl' : ∀ f ∈ l, 0 ≤ f ∧ f < 65536 := fun x hx => hl x (by simp [hx])
    by_cases hk : keep = some f
    · rw [dropAll_keep hk]
      have := dropAll_St (keep := keep) l h hl'
      have e : keptL keep (f :: l) fs = keptL keep l fs := by
        unfold keptL
        refine List.filter_congr fun x _ => ?_
        by_cases hx : x.k = f
        · subst hx; simp [hk]
        · simp [hx]
      rw [e]
      exact this
    · have he : d.changeE f = 0 := (h.changeE (by decide) hf).trans rfl
      rw [dropAll_on hk he]
      have hd := (h.dropped (by decide) hf).2 (by decide)
      have := dropAll_St (keep := keep) l hd hl'
      have e : keptL keep (f :: l) fs = keptL keep l (drop fs f) := by
        unfold keptL drop
        rw [List.filter_filter]
        refine List.filter_congr fun x _ => ?_
        by_cases hx : x.k = f
        · subst hx
          have : (keep == some x.k) = false := beq_eq_false_iff_ne.2 hk
          simp [this]
        · simp [hx]
      rw [e]
      exact this

theorem mem_numbers {l : List Fl} {f : Int} : f ∈ numbers l ↔ ∃ x ∈ l, x.k = f := by
  unfold numbers sortZ
  rw [(List.mergeSort_perm _ _).mem_iff, List.mem_map]

theorem kept_none {fs : List Fl} : keptL none (numbers fs) fs = [] := by
  unfold keptL
  rw [List.filter_eq_nil_iff]
  intro x hx
  have : x.k ∈ numbers fs := mem_numbers.2 ⟨x, hx, rfl⟩
  simp [this]
theorem kept_some {fs : List Fl} (ha : Apart fs) {x : Fl} (hx : x ∈ fs) : keptL (some x.k) (numbers fs) fs = [x] := by
  unfold keptL
  have e : fs.filter (fun y => some x.k == some y.k || !(numbers fs).contains y.k) = fs.filter (fun y => y.k == x.k) := by
    refine List.filter_congr fun y hy => ?_
    have : y.k ∈ numbers fs := mem_numbers.2 ⟨y, hy, rfl⟩
    by_cases h : y.k = x.k
    · simp [h]
    · rw [beq_eq_false_iff_ne.2 h]
      simp [this, Ne.symm h]
  rw [e]
  clear e
  induction fs with
  | nil => cases hx
  | cons y ys ih =>
    unfold Apart at ha
    rw [List.pairwise_cons] at ha
    rcases List.mem_cons.1 hx with rfl | hx
    · rw [List.filter_cons_of_pos (by simp)]
      congr 1
      rw [List.filter_eq_nil_iff]
      intro z hz
      have := ha.1 z hz
      simpa using Ne.symm this
    · have hne := ha.1 x hx
      rw [List.filter_cons_of_neg (by simpa using hne)]
      exact ih ha.2 hx

theorem cut_all' (a : ByteArray) : a.extract 0 a.size = a := by
  apply ba_ext
  rw [ba_extract, List.drop_zero, List.take_of_length_le (by rw [ba_length]; exact Nat.le_refl _)]
theorem sAt_one (F : Int) (s : ByteArray) (z : Int) : sAt [⟨F, s, z⟩] F = s := by simp [sAt, look]
theorem look_one (F : Int) (s : ByteArray) (z : Int) : (look [⟨F, s, z⟩] F).isSome = true := by simp [look]
theorem lay_one (F : Int) (s t : ByteArray) (z y : Int) : lay [⟨F, s, z⟩] ⟨F, t, y⟩ = [⟨F, t, y⟩] := by simp [lay]

theorem openT_none {d : Dk} {fs : List Fl} {L : Int} (h : St d fs L 0 false) (gd : Good d) (hn : newestD d = none) : (openT d).1 = 0 ∧ St (openT d).2 [] L 0 false := by
  have hk : ∀ f ∈ numbers d.files, 0 ≤ f ∧ f < 65536 := by
    intro f hf
    obtain ⟨x, hx, rfl⟩ := mem_numbers.1 hf
    exact gd.keys x hx
  have hs := dropAll_St (keep := none) (numbers d.files) h hk
  have e : openT d = (0, (dropAll none (numbers d.files) d).2) := by
    unfold openT
    rw [hn]
    show tidyR ⟨0, false, false⟩ d 0 = _
    unfold tidyR
    show (if (dropAll none (numbers d.files) d).1 ≠ 0 then _ else if false = true then _ else (0, (dropAll none (numbers d.files) d).2)) = _
    rw [hs.1, if_neg (by simp), if_neg (by simp)]
  rw [e]
  refine ⟨rfl, ?_⟩
  have := hs.2
  rw [h.files, kept_none, ← h.files] at this
  exact this

theorem openT_some {d : Dk} {fs : List Fl} {L : Int} (h : St d fs L 0 false) (gd : Good d) {o : Own} (hn : newestD d = some o) :
    (openT d).1 = 0 ∧ St (openT d).2 [⟨o.file, cutS (sAt fs o.file) o.end_, o.end_⟩] L 0 false ∧ 0 ≤ o.end_ ∧ o.end_ ≤ (sAt fs o.file).size ∧ 0 ≤ o.file ∧ o.file < 65536 := by
  have hk : ∀ f ∈ numbers d.files, 0 ≤ f ∧ f < 65536 := by
    intro f hf
    obtain ⟨x, hx, rfl⟩ := mem_numbers.1 hf
    exact gd.keys x hx
  obtain ⟨hmem, hholds⟩ := newestF_of hn
  rw [List.mem_reverse] at hmem
  have hF := hk _ hmem
  obtain ⟨x, hx, hxk⟩ := mem_numbers.1 hmem
  rw [h.files] at hx
  have hap : Apart fs := by have := gd.apart; rwa [h.files] at this
  have hs := dropAll_St (keep := some o.file) (numbers d.files) h hk
  rw [h.readS hF] at hholds
  have hend := holdsR_end hholds
  have hsx : sAt fs o.file = x.s := by unfold sAt; rw [← hxk, look_of hap hx]; rfl
  rw [hsx] at hend ⊢
  have hkeep : keptL (some o.file) (numbers d.files) fs = [⟨o.file, x.s, x.n⟩] := by
    rw [h.files, ← hxk, kept_some hap hx]
  obtain ⟨d1, hd1⟩ : ∃ d1, d1 = (dropAll (some o.file) (numbers d.files) d).2 := ⟨_, rfl⟩
  have h1 : St d1 [⟨o.file, x.s, x.n⟩] L 0 false := by rw [hd1, ← hkeep]; exact hs.2
  have e : openT d = tidy2 ⟨o.file, true, false⟩ d1 o.end_ := by
    unfold openT
    rw [hn]
    show tidyR ⟨o.file, true, false⟩ d o.end_ = _
    unfold tidyR
    show (if (dropAll (some o.file) (numbers d.files) d).1 ≠ 0 then _ else if true = true then tidy2 _ (dropAll (some o.file) (numbers d.files) d).2 _ else _) = _
    rw [hs.1, if_neg (by simp), if_pos rfl, hd1]
  rw [e]
  have hr1 : d1.readS o.file = x.s := by rw [h1.readS hF, sAt_one]
  have hw1 : d1.wrong o.file = 0 := h1.wrong hF
  refine ⟨?_, ?_, hend.1, hend.2, hF.1, hF.2⟩
  all_goals
    unfold tidy2 tidyE tidyD tidyC
    show _
    simp only [hw1, hr1]
    by_cases hlt : o.end_ < (x.s.size : Int)
    · have hc := h1.cut (by decide) (k := o.end_) hF hend.1 (by rw [sAt_one]; exact hend.2)
      have hce : d1.cutE o.file o.end_ = 0 := hc.1
      have hcs := hc.2.2 (by decide)
      unfold cutL at hcs
      rw [look_one, if_pos rfl, sAt_one, lay_one] at hcs
      simp only [hlt, decide_true, beq_self_eq_true, Bool.and_self, if_true, hce, ne_eq, not_true_eq_false, if_false]
      first
        | exact hcs.changeE (by decide) hF
        | (have hsy := (hcs.sync (by decide) hF).2 (by decide)
           unfold syncL at hsy
           rw [look_one, if_pos rfl, sAt_one, lay_one, size_cutS hend.1 hend.2] at hsy
           exact hsy)
    · have heq : o.end_ = (x.s.size : Int) := by omega
      have hcx : cutS x.s o.end_ = x.s := by
        unfold cutS
        rw [heq, Int.toNat_natCast]
        exact cut_all' x.s
      simp only [hlt, decide_false, Bool.and_false, Bool.false_eq_true, if_false, ne_eq, not_true_eq_false]
      first
        | exact h1.changeE (by decide) hF
        | (have hsy := (h1.sync (by decide) hF).2 (by decide)
           unfold syncL at hsy
           rw [look_one, if_pos rfl, sAt_one, lay_one] at hsy
           rw [hcx, heq]
           exact hsy)

end Go.Proofs.Ytljfagagopaidaa

/- Frames are read again: what a beginning of records' frames says is a beginning of the records. -/
namespace Go.Proofs.Ytljfagagopaidaa
open Go.RowKit Go.Proofs.YtljfagagopaidaaW.PrintWords
set_option linter.unusedSimpArgs false
set_option linter.unusedVariables false

def goodR (r : ByteArray) : Prop := 1 ≤ r.size ∧ r.size ≤ 1000000

theorem framesOf_cons (r : ByteArray) (l : List ByteArray) : framesOf (r :: l) = frame r ++ framesOf l := by
  apply ba_ext
  rw [ba_append]
  simp [framesOf, framesL]
theorem framesOf_nil : framesOf [] = ByteArray.empty := rfl
theorem framesOf_append (l m : List ByteArray) : framesOf (l ++ m) = framesOf l ++ framesOf m := by
  apply ba_ext
  rw [ba_append]
  simp [framesOf, framesL]
theorem framesOf_len (l : List ByteArray) : (framesOf l).size = (l.map fun r => 8 + r.size).sum := by
  induction l with
  | nil => rfl
  | cons r l ih => rw [framesOf_cons, ByteArray.size_append, frame_size, ih]; simp
theorem cut_app_left {a b : ByteArray} {q : Nat} (h : q ≤ a.size) : (a ++ b).extract 0 q = a.extract 0 q := by
  apply ba_ext
  rw [ba_extract, ba_extract, ba_append, List.drop_zero, List.drop_zero, List.take_append_of_le_length (by rw [ba_length]; exact h)]
theorem cut_app_right {a b : ByteArray} {q : Nat} (h : a.size ≤ q) : (a ++ b).extract 0 q = a ++ b.extract 0 (q - a.size) := by
  apply ba_ext
  rw [ba_extract, ba_append, ba_append, ba_extract, List.drop_zero, List.drop_zero, List.take_append, List.take_of_length_le (by rw [ba_length]; exact h), ba_length]
theorem cut_all {a : ByteArray} {q : Nat} (h : a.size ≤ q) : a.extract 0 q = a := by
  apply ba_ext
  rw [ba_extract, List.drop_zero, List.take_of_length_le (by rw [ba_length]; exact h)]
theorem cut_back {a b : ByteArray} {n : Nat} (h : a.size = n) : (a ++ b).extract n (a ++ b).size = b := by
  apply ba_ext
  rw [ba_extract, ba_append, List.take_of_length_le (by rw [List.length_append, ba_length, ba_length, ByteArray.size_append]; exact Nat.le_refl _)]
  rw [List.drop_append, List.drop_of_length_le (by rw [ba_length]; omega), ba_length, h, Nat.sub_self]
  rfl
theorem cut_mid {a b c : ByteArray} {n m : Nat} (h : a.size = n) (hm : a.size + b.size = m) : (a ++ b ++ c).extract n m = b := by
  apply ba_ext
  rw [ba_extract, ba_append, ba_append, List.append_assoc, List.take_append, List.take_of_length_le (by rw [ba_length]; omega), List.drop_append, List.drop_of_length_le (by rw [ba_length]; omega), ba_length, h, Nat.sub_self]
  rw [List.take_append_of_le_length (by rw [ba_length]; omega), List.take_of_length_le (by rw [ba_length]; omega)]
  rfl

theorem bt_app {s t : ByteArray} {i : Nat} (h : i < s.size) : bt (s ++ t) i = bt s i := by
  have hg : s.data.toList[i]? = some s[i] := by
    rw [List.getElem?_eq_getElem (by simpa using h)]
    rfl
  rw [bt_of hg]
  refine bt_of ?_
  rw [ba_append, List.getElem?_append_left (by simpa using h)]
  exact hg
theorem num_app {s t : ByteArray} (h : 4 ≤ s.size) : num (s ++ t) = num s := by
  have h0 := bt_app (s := s) (t := t) (i := 0) (by omega)
  have h1 := bt_app (s := s) (t := t) (i := 1) (by omega)
  have h2 := bt_app (s := s) (t := t) (i := 2) (by omega)
  have h3 := bt_app (s := s) (t := t) (i := 3) (by omega)
  unfold num
  rw [show ((0 : Nat) : Int) = 0 from rfl] at h0
  rw [show ((1 : Nat) : Int) = 1 from rfl] at h1
  rw [show ((2 : Nat) : Int) = 2 from rfl] at h2
  rw [show ((3 : Nat) : Int) = 3 from rfl] at h3
  rw [h0, h1, h2, h3]

theorem nextR_frame (r t : ByteArray) (h : goodR r) : nextR (frame r ++ t) = some r := by
  have h1 := h.1
  have h2 := h.2
  have hsz : (frame r ++ t).size = 8 + r.size + t.size := by rw [ByteArray.size_append, frame_size]
  have hn : num (frame r ++ t) = r.size := by
    unfold frame
    rw [ByteArray.append_assoc, ByteArray.append_assoc]
    exact num_big4 _ (by omega) (by omega) _
  have hcrc := crc_lt r
  have hx : (frame r ++ t).extract 4 (frame r ++ t).size = big4 (crc r : Nat) ++ (r ++ t) := by
    have e : frame r ++ t = big4 r.size ++ (big4 (crc r : Nat) ++ (r ++ t)) := by unfold frame; rw [ByteArray.append_assoc, ByteArray.append_assoc]
    rw [e]
    exact cut_back (big4_size _)
  have hm : num ((frame r ++ t).extract 4 (frame r ++ t).size) = (crc r : Nat) := by
    rw [hx]
    exact num_big4 _ (by omega) (by omega) _
  have hr : (frame r ++ t).extract 8 (8 + (num (frame r ++ t)).toNat) = r := by
    rw [hn, Int.toNat_natCast]
    unfold frame
    refine cut_mid (a := big4 r.size ++ big4 (crc r : Nat)) ?_ ?_
    · rw [ByteArray.size_append, big4_size, big4_size]
    · rw [ByteArray.size_append, big4_size, big4_size]
  unfold nextR
  rw [if_neg (by omega), if_neg (by rw [hn, hsz]; omega), hr, if_pos hm]

theorem nextR_cut (r : ByteArray) (h : goodR r) (q : Nat) (hq : q < 8 + r.size) : nextR ((frame r).extract 0 q) = none := by
  have h1 := h.1
  have h2 := h.2
  have hsz : ((frame r).extract 0 q).size = q := by rw [ByteArray.size_extract, frame_size]; omega
  unfold nextR
  by_cases h8 : q < 8
  · rw [if_pos (by omega)]
  · rw [if_neg (by omega)]
    have hn : num ((frame r).extract 0 q) = r.size := by
      have e : (frame r).extract 0 q = big4 r.size ++ ((big4 (crc r : Nat) ++ r).extract 0 (q - 4)) := by
        unfold frame
        rw [ByteArray.append_assoc, cut_app_right (by rw [big4_size]; omega), big4_size]
      rw [e]
      exact num_big4 _ (by omega) (by omega) _
    rw [if_pos (by rw [hn, hsz]; omega)]

theorem parse_frame (r t : ByteArray) (h : goodR r) : parse (frame r ++ t) = (r :: (parse t).1, (parse t).2) := by
  rw [parse_some (nextR_frame r t h), cut_back (frame_size r)]

theorem parse_frames : ∀ (l : List ByteArray), (∀ r ∈ l, goodR r) → parse (framesOf l) = (l, ByteArray.empty)
  | [], _ => by
    have : nextR (framesOf []) = none := rfl
    rw [parse_none this]
    rfl
  | r :: l, h => by
    rw [framesOf_cons, parse_frame r _ (h r (by simp)), parse_frames l (fun x hx => h x (by simp [hx]))]

/-- What a beginning of frames says. -/
theorem parse_cut : ∀ (l : List ByteArray) (q : Nat), (∀ r ∈ l, goodR r) → q ≤ (framesOf l).size →
    ∃ j, j ≤ l.length ∧ (parse ((framesOf l).extract 0 q)).1 = l.take j ∧ (parse ((framesOf l).extract 0 q)).2.size + (framesOf (l.take j)).size = q ∧ ∀ i, i ≤ l.length → (framesOf (l.take i)).size ≤ q → i ≤ j
  | [], q, _, hq => by
    have hq0 : q = 0 := Nat.le_zero.1 hq
    subst hq0
    have : nextR ((framesOf []).extract 0 0) = none := rfl
    exact ⟨0, Nat.le_refl _, by rw [parse_none this]; rfl, by rw [parse_none this]; rfl, fun i hi _ => by simpa using hi⟩
  | r :: l, q, h, hq => by
    have hr := h r (by simp)
    rw [framesOf_cons] at hq ⊢
    rw [ByteArray.size_append, frame_size] at hq
    by_cases hlt : q < 8 + r.size
    · have e : (frame r ++ framesOf l).extract 0 q = (frame r).extract 0 q := cut_app_left (by rw [frame_size]; omega)
      rw [e, parse_none (nextR_cut r hr q hlt)]
      refine ⟨0, Nat.zero_le _, rfl, ?_, fun i hi hs => ?_⟩
      · show ((frame r).extract 0 q).size + 0 = q
        rw [ByteArray.size_extract, frame_size]
        omega
      · cases i with
        | zero => exact Nat.le_refl _
        | succ i =>
          rw [List.take_succ_cons, framesOf_cons, ByteArray.size_append, frame_size] at hs
          omega
    · have e : (frame r ++ framesOf l).extract 0 q = frame r ++ (framesOf l).extract 0 (q - (8 + r.size)) := by
        rw [cut_app_right (by rw [frame_size]; omega), frame_size]
      obtain ⟨j, h1, h2, h3, h4⟩ := parse_cut l (q - (8 + r.size)) (fun x hx => h x (by simp [hx])) (by omega)
      rw [e, parse_frame r _ hr]
      refine ⟨j + 1, by simp; omega, by rw [List.take_succ_cons, h2], ?_, fun i hi hs => ?_⟩
      · rw [List.take_succ_cons, framesOf_cons, ByteArray.size_append, frame_size]
        show (parse ((framesOf l).extract 0 (q - (8 + r.size)))).2.size + _ = q
        omega
      · cases i with
        | zero => omega
        | succ i =>
          rw [List.take_succ_cons, framesOf_cons, ByteArray.size_append, frame_size] at hs
          have := h4 i (by simpa using hi) (by omega)
          omega

theorem big4_good (n : Int) : goodR (big4 n) := by unfold goodR; rw [big4_size]; decide
theorem num_big4' {n : Int} (h0 : 0 ≤ n) (h1 : n < 4294967296) : num (big4 n) = n := by
  have := num_big4 n h0 h1 ByteArray.empty
  rwa [ByteArray.append_empty] at this

/-- What a beginning of a log's file says. -/
theorem holds_cut (n : Int) (hn0 : 0 ≤ n) (hn1 : n < 4294967296) (l : List ByteArray) (hl : ∀ r ∈ l, goodR r) (q : Nat) (hq : q ≤ 12 + (framesOf l).size) :
    ∃ j, j ≤ l.length ∧ (∀ i, i ≤ l.length → 12 + (framesOf (l.take i)).size ≤ q → i ≤ j) ∧
      (if 12 ≤ q ∧ n ≤ j then holdsR ((framesOf (big4 n :: l)).extract 0 q) = some (l.take j, ((12 + (framesOf (l.take j)).size : Nat) : Int)) ∧ 12 + (framesOf (l.take j)).size ≤ q
       else holdsR ((framesOf (big4 n :: l)).extract 0 q) = none) := by
  have hall : ∀ r ∈ big4 n :: l, goodR r := by
    intro r hr
    rcases List.mem_cons.1 hr with rfl | hr
    · exact big4_good n
    · exact hl r hr
  have hsz : (framesOf (big4 n :: l)).size = 12 + (framesOf l).size := by rw [framesOf_cons, ByteArray.size_append, frame_size, big4_size]
  obtain ⟨j, h1, h2, h3, h4⟩ := parse_cut (big4 n :: l) q hall (by omega)
  have hcs : ((framesOf (big4 n :: l)).extract 0 q).size = q := by rw [ByteArray.size_extract]; omega
  have hf1 : ∀ i, (framesOf ((big4 n :: l).take (i + 1))).size = 12 + (framesOf (l.take i)).size := by
    intro i
    rw [List.take_succ_cons, framesOf_cons, ByteArray.size_append, frame_size, big4_size]
  cases j with
  | zero =>
    have hq12 : q < 12 := by
      rcases Nat.lt_or_ge q 12 with h | h
      · exact h
      · have := h4 1 (by simp) (by rw [hf1 0]; exact h)
        omega
    refine ⟨0, Nat.zero_le _, fun i hi hs => by omega, ?_⟩
    rw [if_neg (by omega)]
    unfold holdsR
    rw [h2]
    rfl
  | succ j =>
    have hj : j ≤ l.length := by simpa using h1
    have h3' := h3
    rw [hf1 j] at h3'
    refine ⟨j, hj, fun i hi hs => ?_, ?_⟩
    · have := h4 (i + 1) (by simpa using hi) (by rw [hf1 i]; exact hs)
      omega
    · have hlen : (l.take j).length = j := by rw [List.length_take]; omega
      have hh : holdsR ((framesOf (big4 n :: l)).extract 0 q) = if (big4 n).size = 4 ∧ num (big4 n) ≤ (l.take j).length then some (l.take j, (((framesOf (big4 n :: l)).extract 0 q).size : Int) - (parse ((framesOf (big4 n :: l)).extract 0 q)).2.size) else none := by
        unfold holdsR
        rw [h2]
        rfl
      rw [hh, big4_size, num_big4' hn0 hn1, hlen, hcs]
      by_cases hnj : n ≤ j
      · rw [if_pos ⟨by omega, hnj⟩, if_pos ⟨rfl, hnj⟩]
        refine ⟨?_, by omega⟩
        congr 2
        omega
      · rw [if_neg (fun e => hnj e.2), if_neg (fun e => hnj e.2)]

/-- A whole log's file. -/
theorem holds_whole (n : Int) (hn0 : 0 ≤ n) (hn1 : n < 4294967296) (l : List ByteArray) (hl : ∀ r ∈ l, goodR r) (hn : n ≤ l.length) :
    holdsR (framesOf (big4 n :: l)) = some (l, (((framesOf (big4 n :: l)).size : Nat) : Int)) := by
  have hsz : (framesOf (big4 n :: l)).size = 12 + (framesOf l).size := by rw [framesOf_cons, ByteArray.size_append, frame_size, big4_size]
  have hall : ∀ r ∈ big4 n :: l, goodR r := by
    intro r hr
    rcases List.mem_cons.1 hr with rfl | hr
    · exact big4_good n
    · exact hl r hr
  have hh : holdsR (framesOf (big4 n :: l)) = if (big4 n).size = 4 ∧ num (big4 n) ≤ l.length then some (l, ((framesOf (big4 n :: l)).size : Int) - (parse (framesOf (big4 n :: l))).2.size) else none := by
    unfold holdsR
    rw [parse_frames _ hall]
  rw [hh, big4_size, num_big4' hn0 hn1, if_pos ⟨rfl, hn⟩, parse_frames _ hall]
  simp
theorem framesOf_two (n : Int) (l : List ByteArray) : framesOf [big4 n] ++ framesOf l = framesOf (big4 n :: l) := by
  rw [framesOf_cons, framesOf_cons, framesOf_nil, ByteArray.append_empty]

end Go.Proofs.Ytljfagagopaidaa

/- What the log's calls make of a disk that holds the log's file alone, armed or not; no program in sight. -/
namespace Go.Proofs.Ytljfagagopaidaa
open Go.RowKit
set_option linter.unusedSimpArgs false
set_option linter.unusedVariables false

def goods (rs : List ByteArray) : Prop := ∀ r ∈ rs, goodR r
theorem bad_iff {r : ByteArray} : badR r = false ↔ goodR r := by
  unfold badR goodR
  rw [Bool.or_eq_false_iff, decide_eq_false_iff_not, decide_eq_false_iff_not]
  omega
theorem any_bad {rs : List ByteArray} (h : goods rs) : rs.any badR = false := by
  rw [List.any_eq_false]
  intro r hr
  rw [bad_iff.2 (h r hr)]
  simp
theorem wrong_good {F : Int} {bg : Bool} {rs : List ByteArray} (h : goods rs) : (⟨F, bg, false⟩ : Lg).wrong rs = 0 := by
  unfold Lg.wrong
  rw [any_bad h]
  rfl
def logS (n : Int) (all : List ByteArray) : ByteArray := framesOf (big4 n :: all)
theorem logS_size (n : Int) (all : List ByteArray) : (logS n all).size = 12 + (framesOf all).size := by
  unfold logS
  rw [framesOf_cons, ByteArray.size_append, frame_size, big4_size]
theorem logS_append (n : Int) (all rs : List ByteArray) : logS n all ++ framesOf rs = logS n (all ++ rs) := by
  unfold logS
  rw [← List.cons_append, framesOf_append]
/-- Which of the two the log's file is: none yet, or its bytes. -/
def filesOf (bg : Bool) (F n : Int) (all : List ByteArray) (z : Int) : List Fl := if bg then [⟨F, logS n all, z⟩] else []
def deadL (F : Int) (bg : Bool) (a : Int) : Lg := ⟨F, bg, a == 1⟩

theorem armN_cases (a : Int) : (0 < a ∧ armN a = a - 1) ∨ (a ≤ 0 ∧ armN a = a) := by
  unfold armN
  split
  · exact .inl ⟨by omega, rfl⟩
  · exact .inr ⟨by omega, rfl⟩

theorem told_dies (F : Int) (bg : Bool) (a : Int) : (⟨F, bg, false⟩ : Lg).told (diesE a) = ⟨F, bg, a == 1⟩ := by
  unfold Lg.told diesE
  by_cases h : a = 1
  · subst h; rfl
  · rw [if_neg h, beq_eq_false_iff_ne.2 h]; rfl

section
variable {d : Dk} {L a F : Int}
theorem app_none {rs : List ByteArray} (h : St d [] L a false) (ha : 0 ≤ a) (hF : 0 ≤ F ∧ F < 65536) (hr : goods rs) (hne : rs ≠ []) (hs : ((12 + (framesOf rs).size : Nat) : Int) ≤ L) :
    (⟨F, false, false⟩ : Lg).appE d rs = diesE a ∧ St ((⟨F, false, false⟩ : Lg).appD d rs) [⟨F, logS 0 rs, 0⟩] L (armN a) (a == 1) ∧ (⟨F, false, false⟩ : Lg).app d rs = ⟨F, !(a == 1), a == 1⟩ := by
  have hg : (⟨F, false, false⟩ : Lg).goes rs = true := by
    unfold Lg.goes
    rw [wrong_good hr]
    cases rs with
    | nil => exact absurd rfl hne
    | cons => rfl
  have hdata : (⟨F, false, false⟩ : Lg).data rs = logS 0 rs := by
    unfold Lg.data logS
    exact framesOf_two 0 rs
  have hap := h.append ha hF (logS 0 rs) (by rw [logS_size]; show ((0 : Nat) : Int) + _ ≤ L; omega)
  unfold Lg.appE Lg.appD Lg.app
  rw [hg, hdata]
  simp only [if_true, hap.1]
  refine ⟨trivial, ?_, ?_⟩
  · have := hap.2
    have e : (sAt [] F ++ logS 0 rs) = logS 0 rs := ByteArray.empty_append
    rw [e] at this
    exact this
  · rw [told_dies]
    unfold diesE
    by_cases h1 : a = 1
    · subst h1; rfl
    · rw [if_neg h1, beq_eq_false_iff_ne.2 h1]; rfl

theorem app_some {n z : Int} {all rs : List ByteArray} (h : St d [⟨F, logS n all, z⟩] L a false) (ha : 0 ≤ a) (hF : 0 ≤ F ∧ F < 65536) (hr : goods rs) (hne : rs ≠ []) (hs : ((12 + (framesOf (all ++ rs)).size : Nat) : Int) ≤ L) :
    (⟨F, true, false⟩ : Lg).appE d rs = diesE a ∧ St ((⟨F, true, false⟩ : Lg).appD d rs) [⟨F, logS n (all ++ rs), z⟩] L (armN a) (a == 1) ∧ (⟨F, true, false⟩ : Lg).app d rs = ⟨F, true, a == 1⟩ := by
  have hg : (⟨F, true, false⟩ : Lg).goes rs = true := by
    unfold Lg.goes
    rw [wrong_good hr]
    cases rs with
    | nil => exact absurd rfl hne
    | cons => rfl
  have hdata : (⟨F, true, false⟩ : Lg).data rs = framesOf rs := rfl
  have hap := h.append ha hF (framesOf rs) (by
    show (((bytes [⟨F, logS n all, z⟩] : Nat) : Int)) + _ ≤ L
    simp only [bytes, List.map_cons, List.map_nil, List.sum_cons, List.sum_nil]
    rw [logS_size]
    rw [framesOf_append, ByteArray.size_append] at hs
    omega)
  unfold Lg.appE Lg.appD Lg.app
  rw [hg, hdata]
  simp only [if_true, hap.1]
  refine ⟨trivial, ?_, ?_⟩
  · have := hap.2
    rw [sAt_one, logS_append, lay_one] at this
    have hn : nAt [⟨F, logS n all, z⟩] F = z := by simp [nAt, look]
    rw [hn] at this
    exact this
  · rw [told_dies]
    rfl

theorem lay_fresh {fs : List Fl} {x : Fl} (h : ∀ y ∈ fs, y.k ≠ x.k) : lay fs x = fs ++ [x] := by
  unfold lay
  rw [if_neg]
  rw [Bool.not_eq_true, List.any_eq_false]
  intro y hy
  simpa using h y hy
theorem look_new {fs : List Fl} {x : Fl} (h : ∀ y ∈ fs, y.k ≠ x.k) : look (fs ++ [x]) x.k = some x := by
  unfold look
  rw [List.find?_append, List.find?_eq_none.2 (fun y hy => by simpa using h y hy)]
  simp
theorem sAt_new {fs : List Fl} {F : Int} {s : ByteArray} {z : Int} (h : ∀ y ∈ fs, y.k ≠ F) : sAt (fs ++ [⟨F, s, z⟩]) F = s := by
  unfold sAt
  rw [look_new (x := ⟨F, s, z⟩) h]
  rfl
theorem sAt_away {fs : List Fl} {F : Int} (h : ∀ y ∈ fs, y.k ≠ F) : sAt fs F = ByteArray.empty ∧ nAt fs F = 0 := by
  have : look fs F = none := by
    unfold look
    exact List.find?_eq_none.2 (fun y hy => by simpa using h y hy)
  unfold sAt nAt
  rw [this]
  exact ⟨rfl, rfl⟩
theorem lay_again {fs : List Fl} {F : Int} {s t : ByteArray} {z y : Int} (h : ∀ x ∈ fs, x.k ≠ F) : lay (fs ++ [⟨F, s, z⟩]) ⟨F, t, y⟩ = fs ++ [⟨F, t, y⟩] := by
  unfold lay
  rw [if_pos (by simp)]
  rw [List.map_append]
  congr 1
  · conv => rhs; rw [← List.map_id fs]
    refine List.map_congr_left fun x hx => ?_
    rw [if_neg (by simpa using h x hx)]
    rfl
  · simp

/-- Compact, by the step at which the disk is armed. fs: the log's elder file, or none. -/
theorem comp_St {bg : Bool} {fs : List Fl} {rs : List ByteArray} (h : St d fs L a false) (ha : 0 ≤ a) (hF : 0 ≤ F ∧ F < 65535) (hr : goods rs) (hfs : ∀ x ∈ fs, x.k = F) (hs : ((bytes fs + (12 + (framesOf rs).size) : Nat) : Int) ≤ L) :
    (a = 1 ∨ a = 2 → ((⟨F, bg, false⟩ : Lg).comp d rs).e = 50 ∧ St ((⟨F, bg, false⟩ : Lg).comp d rs).d (fs ++ [⟨F + 1, logS rs.length rs, 0⟩]) L 0 true) ∧
    (a = 3 → ((⟨F, bg, false⟩ : Lg).comp d rs).e = 50 ∧ St ((⟨F, bg, false⟩ : Lg).comp d rs).d (fs ++ [⟨F + 1, logS rs.length rs, (logS rs.length rs).size⟩]) L 0 true) ∧
    (a ≠ 1 → a ≠ 2 → a ≠ 3 → ((⟨F, bg, false⟩ : Lg).comp d rs).e = 0 ∧ St ((⟨F, bg, false⟩ : Lg).comp d rs).d [⟨F + 1, logS rs.length rs, (logS rs.length rs).size⟩] L (armN (armN (armN a))) false ∧ ((⟨F, bg, false⟩ : Lg).comp d rs).l = ⟨F + 1, true, false⟩) := by
  have hne : ∀ y ∈ fs, y.k ≠ F + 1 := fun y hy => by rw [hfs y hy]; omega
  have hdata : Lg.cdata rs = logS rs.length rs := framesOf_two _ rs
  have hc1 : (⟨F, bg, false⟩ : Lg).comp d rs = (⟨F, bg, false⟩ : Lg).comp1 d (F + 1) (logS rs.length rs) := by
    unfold Lg.comp
    rw [wrong_good hr, if_neg (by simp), hdata]
  have hap := h.append ha (F := F + 1) (by omega) (logS rs.length rs) (by rw [logS_size]; omega)
  rw [(sAt_away hne).1, (sAt_away hne).2, show (ByteArray.empty ++ logS (rs.length : Int) rs) = logS (rs.length : Int) rs from ByteArray.empty_append, lay_fresh hne] at hap
  rw [hc1]
  unfold Lg.comp1
  by_cases h1 : a = 1
  · subst h1
    have e50 : diesE 1 = 50 := rfl
    rw [e50] at hap
    rw [hap.1, if_pos (by decide)]
    exact ⟨fun _ => ⟨rfl, hap.2⟩, fun e => by omega, fun e => absurd rfl e⟩
  · have e0 : diesE a = 0 := by unfold diesE; rw [if_neg h1]
    have b1 : (a == 1) = false := beq_eq_false_iff_ne.2 h1
    rw [e0, b1] at hap
    rw [hap.1, if_neg (by simp)]
    have ht : (⟨F, bg, false⟩ : Lg).told 0 = ⟨F, bg, false⟩ := rfl
    rw [ht]
    obtain ⟨d1, hd1⟩ : ∃ d1, d1 = d.append (F + 1) (logS rs.length rs) := ⟨_, rfl⟩
    rw [← hd1] at hap ⊢
    have s1 := hap.2
    have ha1 : 0 ≤ armN a := by have q1 := armN_cases a; omega
    have hE1 := s1.changeE ha1 (F := F + 1) (by omega)
    have hS1 := s1.sync ha1 (F := F + 1) (by omega)
    unfold Lg.comp2
    by_cases h2 : a = 2
    · subst h2
      have e1 : armN 2 = 1 := rfl
      rw [e1] at hE1 hS1
      rw [hE1, if_pos (by decide)]
      exact ⟨fun _ => ⟨rfl, hS1.1 rfl⟩, fun e => by omega, fun _ e => absurd rfl e⟩
    · have n1 : armN a ≠ 1 := by have q1 := armN_cases a; omega
      have e1 : diesE (armN a) = 0 := by unfold diesE; rw [if_neg n1]
      rw [e1] at hE1
      have s2 := hS1.2 n1
      unfold syncL at s2
      rw [look_new (x := ⟨F + 1, logS rs.length rs, 0⟩) hne, Option.isSome_some, if_pos rfl, sAt_new hne, lay_again hne] at s2
      rw [hE1, if_neg (by simp), ht]
      obtain ⟨d2, hd2⟩ : ∃ d2, d2 = d1.sync (F + 1) := ⟨_, rfl⟩
      rw [← hd2] at s2 ⊢
      have ha2 : 0 ≤ armN (armN a) := by have q1 := armN_cases a; have q2 := armN_cases (armN a); omega
      have hE2 := s2.changeE ha2 (F := F) (by omega)
      have hD2 := s2.dropped ha2 (F := F) (by omega)
      unfold Lg.comp3
      show (_ → _) ∧ (_ → _) ∧ _
      simp only
      by_cases h3 : a = 3
      · subst h3
        have e2 : armN (armN 3) = 1 := rfl
        rw [e2] at hE2 hD2
        rw [hE2, if_pos (by decide)]
        exact ⟨fun e => by omega, fun _ => ⟨rfl, hD2.1 rfl⟩, fun _ _ e => absurd rfl e⟩
      · have n2 : armN (armN a) ≠ 1 := by have q1 := armN_cases a; have q2 := armN_cases (armN a); omega
        have e2 : diesE (armN (armN a)) = 0 := by unfold diesE; rw [if_neg n2]
        rw [e2] at hE2
        have s3 := hD2.2 n2
        have hdr : drop (fs ++ [⟨F + 1, logS rs.length rs, (logS rs.length rs).size⟩]) F = [⟨F + 1, logS rs.length rs, (logS rs.length rs).size⟩] := by
          unfold drop
          rw [List.filter_append, List.filter_eq_nil_iff.2 (fun x hx => by simp [hfs x hx]), List.nil_append, List.filter_cons_of_pos (by simp; omega)]
          rfl
        rw [hdr] at s3
        rw [hE2, if_neg (by simp)]
        exact ⟨fun e => by omega, fun e => absurd e h3, fun _ _ _ => ⟨rfl, s3, rfl⟩⟩

theorem sync_St {n z : Int} {all : List ByteArray} (h : St d [⟨F, logS n all, z⟩] L a false) (ha : 0 ≤ a) (hF : 0 ≤ F ∧ F < 65536) :
    (⟨F, true, false⟩ : Lg).syncE d = diesE a ∧ (a = 1 → St ((⟨F, true, false⟩ : Lg).syncD d) [⟨F, logS n all, z⟩] L 0 true) ∧ (a ≠ 1 → St ((⟨F, true, false⟩ : Lg).syncD d) [⟨F, logS n all, (logS n all).size⟩] L (armN a) false ∧ (⟨F, true, false⟩ : Lg).sync d = ⟨F, true, false⟩) := by
  have hg : (⟨F, true, false⟩ : Lg).goesS = true := rfl
  have hE := h.changeE ha hF
  have hS := h.sync ha hF
  unfold Lg.syncE Lg.syncD Lg.sync
  rw [hg]
  simp only [if_true]
  refine ⟨hE, hS.1, fun h1 => ?_⟩
  have s2 := hS.2 h1
  unfold syncL at s2
  rw [look_one, if_pos rfl, sAt_one, lay_one] at s2
  refine ⟨s2, ?_⟩
  rw [hE, told_dies, beq_eq_false_iff_ne.2 h1]
end

/-! ### Open, on one file or two -/
theorem numbers_one (F : Int) (s : ByteArray) (z : Int) : numbers [⟨F, s, z⟩] = [F] := by simp [numbers, sortZ]
theorem numbers_two (F : Int) (s t : ByteArray) (z y : Int) : numbers [⟨F, s, z⟩, ⟨F + 1, t, y⟩] = [F, F + 1] := by
  refine List.mergeSort_of_pairwise ?_
  simp
  omega
theorem newest_one {d : Dk} {F L : Int} {s : ByteArray} {z : Int} (h : St d [⟨F, s, z⟩] L 0 false) (hF : 0 ≤ F ∧ F < 65536) : newestD d = (holdsR s).map fun p => ⟨F, p.1, p.2⟩ := by
  unfold newestD
  rw [h.files, numbers_one]
  show newestF d [F] = _
  have hr : d.readS F = s := by rw [h.readS hF, sAt_one]
  cases hh : holdsR s with
  | none => rw [newestF_none (by rw [hr]; exact hh)]; rfl
  | some p => rw [newestF_some (by rw [hr]; exact hh)]; rfl
theorem newest_empty {d : Dk} {L : Int} (h : St d [] L 0 false) : newestD d = none := by
  unfold newestD
  rw [h.files]
  have : numbers [] = [] := by simp [numbers, sortZ]
  rw [this]
  rfl
theorem newest_two {d : Dk} {F L : Int} {s t : ByteArray} {z y : Int} (h : St d [⟨F, s, z⟩, ⟨F + 1, t, y⟩] L 0 false) (hF : 0 ≤ F ∧ F < 65535) :
    newestD d = match holdsR t with | some p => some ⟨F + 1, p.1, p.2⟩ | none => (holdsR s).map fun p => ⟨F, p.1, p.2⟩ := by
  unfold newestD
  rw [h.files, numbers_two]
  show newestF d [F + 1, F] = _
  have hr : d.readS F = s := by rw [h.readS (by omega)]; simp [sAt, look]
  have hr1 : d.readS (F + 1) = t := by
    rw [h.readS (by omega)]
    have := sAt_new (fs := [⟨F, s, z⟩]) (F := F + 1) (s := t) (z := y) (by simp; omega)
    exact this
  cases ht : holdsR t with
  | some p => rw [newestF_some (by rw [hr1]; exact ht)]
  | none =>
    rw [newestF_none (by rw [hr1]; exact ht)]
    cases hh : holdsR s with
    | none => rw [newestF_none (by rw [hr]; exact hh)]; rfl
    | some p => rw [newestF_some (by rw [hr]; exact hh)]; rfl

end Go.Proofs.Ytljfagagopaidaa
