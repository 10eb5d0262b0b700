/- The two disks side by side, with no program in sight: alike but for the order of the files, they answer alike. -/
import Derived.Test.YtljfagagopaidaaRk
namespace Go.Proofs.Ytljfagagopaidaa
open Go.RowKit
set_option linter.unusedSimpArgs false
set_option linter.unusedVariables false

def Apart (l : List Fl) : Prop := l.Pairwise (fun a b => a.k ≠ b.k)

theorem look_of {l : List Fl} (h : Apart l) {x : Fl} (hx : x ∈ l) : look l x.k = some x := by
  induction l with
  | nil => cases hx
  | cons y ys ih =>
    unfold Apart at h
    rw [List.pairwise_cons] at h
    unfold look
    rcases List.mem_cons.1 hx with rfl | hx
    · rw [List.find?_cons_of_pos (by simp)]
    · have hne := h.1 x hx
      rw [List.find?_cons_of_neg (by simpa using hne)]
      exact ih h.2 hx

section
variable {d r : Dk} (h : Alike d r) (hn : Apart r.files)
include h
theorem Alike.bytes : Ytljfagagopaidaa.bytes r.files = Ytljfagagopaidaa.bytes d.files := bytes_perm h.files
theorem Alike.stepE : r.stepE = d.stepE := by unfold Dk.stepE; rw [h.step.dead]
theorem Alike.appendE (f : Int) (s : ByteArray) : r.appendE f s = d.appendE f s := by
  unfold Dk.appendE
  rw [h.wrong, h.limit, h.bytes, h.stepE]
theorem Alike.changeE (f : Int) : r.changeE f = d.changeE f := by
  unfold Dk.changeE
  rw [h.wrong, h.stepE]
theorem Alike.arm (n : Int) : Alike (d.arm n) (r.arm n) := ⟨h.files, h.limit, rfl, h.dead, h.steps⟩
include hn
theorem Alike.look (f : Int) : Ytljfagagopaidaa.look r.files f = Ytljfagagopaidaa.look d.files f := look_perm h.files hn f
theorem Alike.sAt (f : Int) : Ytljfagagopaidaa.sAt r.files f = Ytljfagagopaidaa.sAt d.files f := by unfold Ytljfagagopaidaa.sAt; rw [h.look hn]
theorem Alike.nAt (f : Int) : Ytljfagagopaidaa.nAt r.files f = Ytljfagagopaidaa.nAt d.files f := by unfold Ytljfagagopaidaa.nAt; rw [h.look hn]
theorem Alike.readS (f : Int) : r.readS f = d.readS f := by
  unfold Dk.readS
  rw [h.wrong, h.sAt hn]
theorem Alike.cutE (f k : Int) : r.cutE f k = d.cutE f k := by
  unfold Dk.cutE
  rw [h.wrong, h.stepE, h.sAt hn]
omit hn in
theorem Alike.put (x : Fl) : Alike (d.put x) (r.put x) := ⟨lay_perm h.files x, h.limit, h.armed, h.dead, h.steps⟩
omit hn in
theorem Alike.del (f : Int) : Alike (d.del f) (r.del f) := ⟨h.files.filter _, h.limit, h.armed, h.dead, h.steps⟩
theorem Alike.append (f : Int) (s : ByteArray) : Alike (d.append f s) (r.append f s) := by
  unfold Dk.append
  rw [h.wrong, h.limit, h.bytes, h.sAt hn, h.nAt hn]
  split
  · exact h
  · split
    · exact h
    · exact (h.put _).step
theorem Alike.changed (f : Int) {D R : Dk} (hDR : Alike D R) : Alike (d.changed f D) (r.changed f R) := by
  unfold Dk.changed
  rw [h.step.dead, h.look hn]
  split
  · exact h.step
  · split
    · exact hDR
    · exact h.step
theorem Alike.sync (f : Int) : Alike (d.sync f) (r.sync f) := by
  unfold Dk.sync
  rw [h.wrong, h.sAt hn]
  split
  · exact h
  · exact h.changed hn f (h.step.put _)
theorem Alike.dropped (f : Int) : Alike (d.dropped f) (r.dropped f) := by
  unfold Dk.dropped
  rw [h.wrong]
  split
  · exact h
  · exact h.changed hn f (h.step.del _)
theorem Alike.cut (f k : Int) : Alike (d.cut f k) (r.cut f k) := by
  unfold Dk.cut
  rw [h.wrong, h.sAt hn]
  split
  · exact h
  · split
    · exact h
    · split
      · exact h
      · exact h.changed hn f (h.step.put _)
end

theorem srt_map_sorted {l : List Fl} (h : l.Pairwise (fun a b => a.k < b.k)) : (l.map Fl.k).Pairwise (· ≤ ·) := by
  rw [List.pairwise_map]
  exact h.imp (fun h => by omega)

theorem Alike.numbers {d r : Dk} (h : Alike d r) (hs : r.files.Pairwise (fun a b => a.k < b.k)) : numbers d.files = r.files.map Fl.k := by
  unfold Ytljfagagopaidaa.numbers sortZ
  have h1 : ((d.files.map Fl.k).mergeSort (fun a b => decide (a ≤ b))).Perm (r.files.map Fl.k) := (List.mergeSort_perm _ _).trans (h.files.symm.map _)
  have h2 : ((d.files.map Fl.k).mergeSort (fun a b => decide (a ≤ b))).Pairwise (· ≤ ·) := by
    have := List.pairwise_mergeSort (le := fun (a b : Int) => decide (a ≤ b)) (by intro a b c; simp; omega) (by intro a b; simp; omega) (d.files.map Fl.k)
    exact this.imp (fun h => by simpa using h)
  exact h1.eq_of_pairwise (fun a b _ _ h1 h2 => Int.le_antisymm h1 h2) h2 (srt_map_sorted hs)

theorem lay_in {pre xs : List Fl} {x y : Fl} (h : Apart (pre ++ x :: xs)) (hy : y.k = x.k) : lay (pre ++ x :: xs) y = pre ++ y :: xs := by
  have ha : (pre ++ x :: xs).any (fun z => z.k == y.k) = true := by
    rw [List.any_eq_true]
    exact ⟨x, by simp, by simp [hy]⟩
  unfold lay
  rw [if_pos ha]
  unfold Apart at h
  rw [List.pairwise_append, List.pairwise_cons] at h
  obtain ⟨_, ⟨h2, _⟩, h3⟩ := h
  rw [List.map_append, List.map_cons, if_pos (by simp [hy])]
  congr 1
  · conv => rhs; rw [← List.map_id pre]
    refine List.map_congr_left fun z hz => ?_
    have := h3 z hz x (by simp)
    rw [if_neg (by simp [hy]; exact this)]
    rfl
  · congr 1
    conv => rhs; rw [← List.map_id xs]
    refine List.map_congr_left fun z hz => ?_
    have := h2 z hz
    rw [if_neg (by simp [hy]; omega)]
    rfl

theorem crash_perm : ∀ (rest pre L : List Fl) (ks : List Int), L.Perm (pre ++ rest) → Apart (pre ++ rest) → (pre ++ rcl ks rest).Perm (crashL (rest.map Fl.k) ks L)
  | [], pre, L, ks, h, _ => by
    show (pre ++ rcl ks []).Perm L
    have : rcl ks [] = [] := by cases ks <;> rfl
    rw [this]
    exact h.symm
  | x :: xs, pre, L, ks, h, ha => by
    have haL : Apart L := (h.symm.pairwise_iff (fun h => h.symm)).1 ha
    have hl : look L x.k = some x := look_of haL (h.mem_iff.2 (by simp))
    obtain ⟨e1, e2⟩ := sAt_of hl
    show (pre ++ rcl ks (x :: xs)).Perm (crashL (x.k :: xs.map Fl.k) ks L)
    by_cases hz : (x.s.size : Int) - x.n = 0
    · rw [rcl_skip hz, crashL_skip (by rw [e1, e2]; exact hz)]
      have := crash_perm xs (pre ++ [x]) L ks (by rw [List.append_assoc]; exact h) (by rw [List.append_assoc]; exact ha)
      rw [List.append_assoc] at this
      exact this
    · rw [rcl_cut hz, crashL_cut (by rw [e1, e2]; exact hz) (cutQ x (ks.headD 0)) (by rw [e1, e2]; rfl), e1]
      have hin := lay_in (y := ⟨x.k, cutS x.s (cutQ x (ks.headD 0)), cutQ x (ks.headD 0)⟩) ha rfl
      have hp := lay_perm h ⟨x.k, cutS x.s (cutQ x (ks.headD 0)), cutQ x (ks.headD 0)⟩
      rw [hin] at hp
      have hap : Apart (pre ++ ⟨x.k, cutS x.s (cutQ x (ks.headD 0)), cutQ x (ks.headD 0)⟩ :: xs) := by
        unfold Apart at ha ⊢
        rw [List.pairwise_append, List.pairwise_cons] at ha ⊢
        refine ⟨ha.1, ⟨fun b hb => ha.2.1.1 b hb, ha.2.1.2⟩, fun a ha' b hb => ?_⟩
        rcases List.mem_cons.1 hb with rfl | hb
        · exact ha.2.2 a ha' x (by simp)
        · exact ha.2.2 a ha' b (by simp [hb])
      have := crash_perm xs (pre ++ [⟨x.k, cutS x.s (cutQ x (ks.headD 0)), cutQ x (ks.headD 0)⟩]) (lay L ⟨x.k, cutS x.s (cutQ x (ks.headD 0)), cutQ x (ks.headD 0)⟩) ks.tail (by rw [List.append_assoc]; exact hp) (by rw [List.append_assoc]; exact hap)
      rw [List.append_assoc] at this
      exact this

theorem Alike.crash {d r : Dk} (h : Alike d r) (hs : r.files.Pairwise (fun a b => a.k < b.k)) (ks : List Int) : Alike (d.crash ks) { r with files := rcl ks r.files, dead := false, armed := 0 } := by
  refine ⟨?_, h.limit, rfl, rfl, h.steps⟩
  show (rcl ks r.files).Perm (crashL (Ytljfagagopaidaa.numbers d.files) ks d.files)
  rw [h.numbers hs]
  exact crash_perm r.files [] d.files ks h.files.symm (srt_nodup hs)

end Go.Proofs.Ytljfagagopaidaa
