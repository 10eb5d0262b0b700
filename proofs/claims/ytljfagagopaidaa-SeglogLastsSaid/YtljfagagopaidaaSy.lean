/- What lasts of a log: its disk before a crash, behind it, and opened again; no program in sight. -/
import Derived.Test.YtljfagagopaidaaAw
import Derived.Test.YtljfagagopaidaaTx
namespace Go.Proofs.Ytljfagagopaidaa
open Go.RowKit
set_option linter.unusedSimpArgs false
set_option linter.unusedVariables false

def lim20 : Int := 1048576
/-- The log's own file: its bytes, of which so many are synced that k records are. -/
structure OldF (F : Int) (all : List ByteArray) (k : Nat) (x : Fl) : Prop where
  key : x.k = F
  form : ∃ n : Int, x.s = logS n all ∧ 0 ≤ n ∧ n ≤ k
  low : ((12 + (framesOf (all.take k)).size : Nat) : Int) ≤ x.n
  high : x.n ≤ x.s.size
/-- A file that Compact lays: whole in the disk, of it nothing or all synced. -/
structure NewF (F : Int) (all : List ByteArray) (x : Fl) : Prop where
  key : x.k = F + 1
  form : x.s = logS all.length all
  n : x.n = 0 ∨ x.n = x.s.size

/-- The disk before a crash. -/
structure Pre (d : Dk) (all : List ByteArray) (k i f : Nat) : Prop where
  gd : Good d
  limit : d.limit = lim20
  good : goods all
  kle : k ≤ all.length
  size : (framesOf all).size ≤ 9000 * i
  files : ∃ (F : Int) (old new : List Fl), 0 ≤ F ∧ F < f + 1 ∧ d.files = old ++ new ∧ (old = [] ∧ k = 0 ∨ ∃ x, old = [x] ∧ (OldF F all k x ∨ (k = 0 ∧ x.k = F ∧ x.s = logS 0 all ∧ x.n = 0))) ∧ (new = [] ∧ (old = [] → all = []) ∨ ∃ y, new = [y] ∧ NewF F all y)

/-- Log and disk between the calls. -/
structure Inv (d : Dk) (l : Lg) (a : Int) (all : List ByteArray) (k i f : Nat) : Prop where
  gd : Good d
  good : goods all
  kle : k ≤ all.length
  size : (framesOf all).size ≤ 9000 * i
  alive : l.dead = false
  file : 0 ≤ l.file ∧ l.file ≤ f
  st : (l.begun = false ∧ St d [] lim20 a false ∧ all = [] ∧ k = 0) ∨ (l.begun = true ∧ ∃ x, St d [x] lim20 a false ∧ (OldF l.file all k x ∨ (k = 0 ∧ x.k = l.file ∧ x.s = logS 0 all ∧ x.n = 0)))

theorem Inv.pre {d : Dk} {l : Lg} {a : Int} {all : List ByteArray} {k i f : Nat} (h : Inv d l a all k i f) : Pre d all k i f := by
  have hf := h.file
  rcases h.st with ⟨_, hs, ha, hk⟩ | ⟨_, x, hs, hx⟩
  · exact ⟨h.gd, hs.limit, h.good, h.kle, h.size, l.file, [], [], hf.1, by omega, hs.files, .inl ⟨rfl, hk⟩, .inl ⟨rfl, fun _ => ha⟩⟩
  · exact ⟨h.gd, hs.limit, h.good, h.kle, h.size, l.file, [x], [], hf.1, by omega, hs.files, .inr ⟨x, rfl, hx⟩, .inl ⟨rfl, fun e => by cases e⟩⟩

theorem Inv.up {d : Dk} {l : Lg} {a : Int} {all : List ByteArray} {k i j f g : Nat} (h : Inv d l a all k i f) (hij : i ≤ j) (hfg : f ≤ g) : Inv d l a all k j g :=
  ⟨h.gd, h.good, h.kle, by have := h.size; omega, h.alive, by have := h.file; omega, h.st⟩
theorem Pre.up {d : Dk} {all : List ByteArray} {k i j f g : Nat} (h : Pre d all k i f) (hij : i ≤ j) (hfg : f ≤ g) : Pre d all k j g := by
  obtain ⟨F, old, new, h0, h1, h2, h3, h4⟩ := h.files
  exact ⟨h.gd, h.limit, h.good, h.kle, by have := h.size; omega, F, old, new, h0, by omega, h2, h3, h4⟩

theorem frames_nine {l : List ByteArray} (h : goods l) : 2 * (framesOf l).size ≤ 9 * sumT l := by
  induction l with
  | nil => exact Nat.zero_le _
  | cons r l ih =>
    have h1 := h r (by simp)
    have h2 := ih (fun x hx => h x (by simp [hx]))
    rw [framesOf_cons, ByteArray.size_append, frame_size, sumT_cons]
    have := h1.1
    omega
theorem frames_put {l : List ByteArray} (h : goods l) (hf : fewB l = true) : (framesOf l).size ≤ 9000 := by
  have h1 := frames_nine h
  have h2 := of_decide_eq_true hf
  omega

/-! ### the calls -/
section
variable {d : Dk} {l : Lg} {a : Int} {all rs : List ByteArray} {k i f : Nat}

theorem goods_append {l m : List ByteArray} (h : goods l) (h' : goods m) : goods (l ++ m) := by
  intro r hr
  rcases List.mem_append.1 hr with hr | hr
  · exact h r hr
  · exact h' r hr

theorem lg_eta (l : Lg) (hd : l.dead = false) : l = ⟨l.file, l.begun, false⟩ := by cases l; simp at hd; subst hd; rfl

/-- Records that are not right: nothing is done. -/
theorem inv_bad (h : Inv d l a all k i f) (hb : rs.any badR = true) : l.appE d rs = 1 ∧ l.appD d rs = d ∧ l.app d rs = l := by
  have hw : l.wrong rs = 1 := by unfold Lg.wrong; rw [h.alive, hb]; rfl
  have hg : l.goes rs = false := by unfold Lg.goes; rw [hw]; rfl
  unfold Lg.appE Lg.appD Lg.app
  rw [hg]
  exact ⟨hw, rfl, rfl⟩
/-- No records: nothing is done. -/
theorem inv_none (h : Inv d l a all k i f) : l.appE d [] = 0 ∧ l.appD d [] = d ∧ l.app d [] = l := by
  have hw : l.wrong [] = 0 := by unfold Lg.wrong; rw [h.alive]; rfl
  have hg : l.goes [] = false := by unfold Lg.goes; simp
  unfold Lg.appE Lg.appD Lg.app
  rw [hg]
  exact ⟨hw, rfl, rfl⟩

/-- Append: it goes on, or the disk dies at it. -/
theorem inv_app (h : Inv d l a all k i f) (ha : 0 ≤ a) (hi : i < 40) (hf : f ≤ 1000) (hr : goods rs) (hne : rs ≠ []) (hs : (framesOf rs).size ≤ 9000) :
    l.appE d rs = diesE a ∧ (a = 1 → Pre (l.appD d rs) (all ++ rs) k (i + 1) f) ∧ (a ≠ 1 → Inv (l.appD d rs) (l.app d rs) (armN a) (all ++ rs) k (i + 1) f) := by
  have hsz := h.size
  have hF := h.file
  have hz : (framesOf (all ++ rs)).size ≤ 9000 * (i + 1) := by rw [framesOf_append, ByteArray.size_append]; omega
  have hg := goods_append h.good hr
  have gd' := h.gd.lapp l rs
  rcases h.st with ⟨hb, hst, rfl, rfl⟩ | ⟨hb, x, hst, hx⟩
  · have e := lg_eta l h.alive
    rw [hb] at e
    rw [List.nil_append] at hz hg ⊢
    have hap := app_none (F := l.file) hst ha (by omega) hr hne (by show _ ≤ (1048576 : Int); omega)
    rw [← e] at hap
    refine ⟨hap.1, fun h1 => ?_, fun h1 => ?_⟩
    · subst h1
      exact ⟨gd', hap.2.1.limit, hg, Nat.zero_le _, hz, l.file, [⟨l.file, logS 0 rs, 0⟩], [], hF.1, by omega, hap.2.1.files, .inr ⟨_, rfl, .inr ⟨rfl, rfl, rfl, rfl⟩⟩, .inl ⟨rfl, fun e => by cases e⟩⟩
    · have hb1 : (a == 1) = false := beq_eq_false_iff_ne.2 h1
      rw [hb1] at hap
      rw [hap.2.2]
      exact ⟨gd', hg, Nat.zero_le _, hz, rfl, ⟨hF.1, by show l.file ≤ _; omega⟩, .inr ⟨rfl, _, hap.2.1, .inr ⟨rfl, rfl, rfl, rfl⟩⟩⟩
  · have e := lg_eta l h.alive
    rw [hb] at e
    obtain ⟨n, hxk, hxs, hx'⟩ : ∃ n : Int, x.k = l.file ∧ x.s = logS n all ∧ (OldF l.file (all ++ rs) k ⟨l.file, logS n (all ++ rs), x.n⟩ ∨ (k = 0 ∧ l.file = l.file ∧ logS n (all ++ rs) = logS 0 (all ++ rs) ∧ x.n = 0)) := by
      rcases hx with ho | ⟨h0, h1, h2, h3⟩
      · obtain ⟨n, hn1, hn2, hn3⟩ := ho.form
        refine ⟨n, ho.key, hn1, .inl ⟨rfl, ⟨n, rfl, hn2, hn3⟩, ?_, ?_⟩⟩
        · have := ho.low
          rw [List.take_append_of_le_length h.kle]
          exact this
        · have := ho.high
          show x.n ≤ ((logS n (all ++ rs)).size : Int)
          rw [hn1, logS_size] at this
          rw [logS_size, framesOf_append, ByteArray.size_append]
          omega
      · exact ⟨0, h1, h2, .inr ⟨h0, rfl, rfl, h3⟩⟩
    have hst' : St d [⟨l.file, logS n all, x.n⟩] lim20 a false := by
      have : x = ⟨l.file, logS n all, x.n⟩ := by cases x; simp at hxk hxs ⊢; exact ⟨hxk, hxs⟩
      rw [← this]
      exact hst
    have hap := app_some (F := l.file) hst' ha (by omega) hr hne (by show _ ≤ (1048576 : Int); omega)
    rw [← e] at hap
    refine ⟨hap.1, fun h1 => ?_, fun h1 => ?_⟩
    · subst h1
      exact ⟨gd', hap.2.1.limit, hg, by rw [List.length_append]; have := h.kle; omega, hz, l.file, [⟨l.file, logS n (all ++ rs), x.n⟩], [], hF.1, by omega, hap.2.1.files, .inr ⟨_, rfl, hx'⟩, .inl ⟨rfl, fun e => by cases e⟩⟩
    · have hb1 : (a == 1) = false := beq_eq_false_iff_ne.2 h1
      rw [hb1] at hap
      rw [hap.2.2]
      exact ⟨gd', hg, by rw [List.length_append]; have := h.kle; omega, hz, rfl, ⟨hF.1, by show l.file ≤ _; omega⟩, .inr ⟨rfl, _, hap.2.1, hx'⟩⟩

/-- Sync: all is synced, or the disk dies at it. -/
theorem inv_sync (h : Inv d l a all k i f) (ha : 0 ≤ a) (hi : i ≤ 40) (hf : f ≤ 1000) :
    (l.syncE d = 0 ∨ l.syncE d = 50) ∧ (l.syncE d = 50 → 0 < a ∧ Pre (l.syncD d) all k i f) ∧ (l.syncE d = 0 → ∃ a', 0 ≤ a' ∧ (a = 0 → a' = 0) ∧ Inv (l.syncD d) (l.sync d) a' all all.length i f) := by
  have hF := h.file
  have gd' := h.gd.lsync l
  have e := lg_eta l h.alive
  rcases h.st with ⟨hb, hst, rfl, rfl⟩ | ⟨hb, x, hst, hx⟩
  · rw [hb] at e
    have hg : l.goesS = false := by unfold Lg.goesS; rw [hb, Bool.and_false]
    have hw : l.wrong [] = 0 := by unfold Lg.wrong; rw [h.alive]; rfl
    have e1 : l.syncE d = 0 := by unfold Lg.syncE; rw [hg]; exact hw
    have e2 : l.syncD d = d := by unfold Lg.syncD; rw [hg]; rfl
    have e3 : l.sync d = l := by unfold Lg.sync; rw [hg]; rfl
    rw [e1, e2, e3]
    exact ⟨.inl rfl, (fun e => by cases e), fun _ => ⟨a, ha, fun e => e, h⟩⟩
  · rw [hb] at e
    obtain ⟨n, hxk, hxs, hn0, hn1⟩ : ∃ n : Int, x.k = l.file ∧ x.s = logS n all ∧ 0 ≤ n ∧ n ≤ k := by
      rcases hx with ho | ⟨h0, h1, h2, h3⟩
      · obtain ⟨n, hn1, hn2, hn3⟩ := ho.form
        exact ⟨n, ho.key, hn1, hn2, hn3⟩
      · exact ⟨0, h1, h2, Int.le_refl _, by omega⟩
    have hst' : St d [⟨l.file, logS n all, x.n⟩] lim20 a false := by
      have : x = ⟨l.file, logS n all, x.n⟩ := by cases x; simp at hxk hxs ⊢; exact ⟨hxk, hxs⟩
      rw [← this]
      exact hst
    have hsy := sync_St (F := l.file) hst' ha (by omega)
    rw [← e] at hsy
    have hkl := h.kle
    by_cases h1 : a = 1
    · subst h1
      have e50 : l.syncE d = 50 := hsy.1
      have hd := hsy.2.1 rfl
      refine ⟨.inr e50, fun _ => ⟨by decide, gd', hd.limit, h.good, h.kle, h.size, l.file, [⟨l.file, logS n all, x.n⟩], [], hF.1, by omega, hd.files, .inr ⟨_, rfl, ?_⟩, .inl ⟨rfl, fun e => by cases e⟩⟩, fun e => by rw [e50] at e; cases e⟩
      have : x = ⟨l.file, logS n all, x.n⟩ := by cases x; simp at hxk hxs ⊢; exact ⟨hxk, hxs⟩
      rw [← this]
      exact hx
    · have e0 : l.syncE d = 0 := by rw [hsy.1]; unfold diesE; rw [if_neg h1]
      obtain ⟨hd, hl⟩ := hsy.2.2 h1
      refine ⟨.inl e0, (fun e => by rw [e0] at e; cases e), fun _ => ⟨armN a, by have := armN_cases a; omega, fun e => by subst e; rfl, ?_⟩⟩
      rw [hl]
      refine ⟨gd', h.good, Nat.le_refl _, h.size, h.alive, hF, .inr ⟨hb, _, hd, .inl ⟨rfl, ⟨n, rfl, hn0, by omega⟩, ?_, Int.le_refl _⟩⟩⟩
      show ((12 + (framesOf (all.take all.length)).size : Nat) : Int) ≤ ((logS n all).size : Int)
      rw [List.take_length, logS_size]
      exact Int.le_refl _

/-- Compact: the log is one of its records, or the disk dies. -/
theorem inv_comp (h : Inv d l a all k i f) (ha : 0 ≤ a) (hi : i ≤ 40) (hf : f ≤ 1000) :
    ((l.comp d all).e = 0 ∨ (l.comp d all).e = 50) ∧ ((l.comp d all).e = 50 → 0 < a ∧ Pre (l.comp d all).d all k i f) ∧ ((l.comp d all).e = 0 → ∃ a', 0 ≤ a' ∧ (a = 0 → a' = 0) ∧ Inv (l.comp d all).d (l.comp d all).l a' all all.length i (f + 1)) := by
  have hF := h.file
  have gd' := h.gd.lcomp l all
  have e := lg_eta l h.alive
  have hsz := h.size
  obtain ⟨fs, hst, hkey, hby, hold⟩ : ∃ fs, St d fs lim20 a false ∧ (∀ x ∈ fs, x.k = l.file) ∧ bytes fs ≤ 12 + 9000 * i ∧ (fs = [] ∧ k = 0 ∨ ∃ x, fs = [x] ∧ (OldF l.file all k x ∨ (k = 0 ∧ x.k = l.file ∧ x.s = logS 0 all ∧ x.n = 0))) := by
    rcases h.st with ⟨hb, hst, ha', hk'⟩ | ⟨hb, x, hst, hx⟩
    · exact ⟨[], hst, (fun x hx => by cases hx), by simp [bytes], .inl ⟨rfl, hk'⟩⟩
    · refine ⟨[x], hst, ?_, ?_, .inr ⟨x, rfl, hx⟩⟩
      · intro y hy
        rw [List.mem_singleton.1 hy]
        rcases hx with ho | ⟨_, h1, _⟩
        · exact ho.key
        · exact h1
      · simp only [bytes, List.map_cons, List.map_nil, List.sum_cons, List.sum_nil]
        rcases hx with ho | ⟨_, _, h2, _⟩
        · obtain ⟨n, hn1, _⟩ := ho.form
          rw [hn1, logS_size]
          omega
        · rw [h2, logS_size]
          omega
  have hco := comp_St (F := l.file) (bg := l.begun) hst ha (by omega) h.good hkey (by show _ ≤ (1048576 : Int); omega)
  rw [← e] at hco
  have pre : ∀ z : Int, (z = 0 ∨ z = (logS all.length all).size) → (l.comp d all).d.limit = lim20 → (l.comp d all).d.files = fs ++ [⟨l.file + 1, logS all.length all, z⟩] → Pre (l.comp d all).d all k i f := by
    intro z hz h1 h2
    exact ⟨gd', h1, h.good, h.kle, h.size, l.file, fs, [⟨l.file + 1, logS all.length all, z⟩], hF.1, by omega, h2, hold, .inr ⟨_, rfl, rfl, rfl, hz⟩⟩
  by_cases h12 : a = 1 ∨ a = 2
  · obtain ⟨h1, h2⟩ := hco.1 h12
    exact ⟨.inr h1, fun _ => ⟨by omega, pre 0 (.inl rfl) h2.limit h2.files⟩, fun e => by rw [h1] at e; cases e⟩
  · by_cases h3 : a = 3
    · obtain ⟨h1, h2⟩ := hco.2.1 h3
      exact ⟨.inr h1, fun _ => ⟨by omega, pre _ (.inr rfl) h2.limit h2.files⟩, fun e => by rw [h1] at e; cases e⟩
    · obtain ⟨h1, h2, h4⟩ := hco.2.2 (by omega) (by omega) h3
      refine ⟨.inl h1, (fun e => by rw [h1] at e; cases e), fun _ => ⟨armN (armN (armN a)), by have q1 := armN_cases a; have q2 := armN_cases (armN a); have q3 := armN_cases (armN (armN a)); omega, fun e => by subst e; rfl, ?_⟩⟩
      rw [h4]
      refine ⟨gd', h.good, Nat.le_refl _, hsz, rfl, ⟨by show 0 ≤ l.file + 1; omega, by show l.file + 1 ≤ _; omega⟩, .inr ⟨rfl, _, h2, .inl ⟨rfl, ⟨all.length, rfl, by omega, Int.le_refl _⟩, ?_, Int.le_refl _⟩⟩⟩
      show ((12 + (framesOf (all.take all.length)).size : Nat) : Int) ≤ ((logS all.length all).size : Int)
      rw [List.take_length, logS_size]
      exact Int.le_refl _
end

end Go.Proofs.Ytljfagagopaidaa
