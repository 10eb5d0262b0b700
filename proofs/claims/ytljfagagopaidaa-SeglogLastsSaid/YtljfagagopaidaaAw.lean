/- The chapter's examples of the log, walked. -/
import Derived.Test.YtljfagagopaidaaSx
import Derived.Test.YtljfagagopaidaaDw
namespace Go.Proofs.Ytljfagagopaidaa
open Go.RowKit Go.Proofs.YtljfagagopaidaaW.PrintWords
set_option linter.unusedSimpArgs false
set_option linter.unusedVariables false
set_option maxRecDepth 100000

theorem C_strs (w : World) (xs : List ByteArray) (h : xs.length ≤ 9223372036854775807) : Kd.string.C (w.alloc (.cells (xs.map Value.string).toArray 9)) (some ⟨w.heap.size, 0, none⟩) xs.length xs := by
  refine ⟨rfl, h, fun hn => ⟨_, rfl, fun j p hj => ⟨[.string p], rfl, rfl, fun i u hu => ?_⟩⟩⟩
  match i, hu with
  | 0, hu =>
    have hu' : Value.string p = u := by simpa using hu
    subst hu'
    show (w.alloc _).cell? ((⟨w.heap.size, 0, none⟩ : Addr).add (j * 1 + 0)) = _
    rw [Nat.mul_one, Nat.add_zero]
    have : (⟨w.heap.size, 0, none⟩ : Addr).add j = ⟨w.heap.size, j, none⟩ := by unfold Addr.add; split <;> simp_all
    rw [this, cell_blk (heap_alloc_new w _) j]
    simp [hj]
  | i + 1, hu => simp at hu

theorem Good.lapp {d : Dk} (h : Good d) (l : Lg) (rs : List ByteArray) : Good (l.appD d rs) := by
  unfold Lg.appD
  split
  · exact h.append _ _
  · exact h
theorem Good.lsync {d : Dk} (h : Good d) (l : Lg) : Good (l.syncD d) := by
  unfold Lg.syncD
  split
  · exact h.sync _
  · exact h
theorem Good.lcomp {d : Dk} (h : Good d) (l : Lg) (rs : List ByteArray) : Good (l.comp d rs).d := by
  unfold Lg.comp
  split
  · exact h
  · unfold Lg.comp1
    have h1 := h.append (l.file + 1) (Lg.cdata rs)
    split
    · exact h1
    · unfold Lg.comp2
      have h2 := h1.sync (l.file + 1)
      split
      · exact h2
      · unfold Lg.comp3
        split
        · exact h2.dropped _
        · exact h2.dropped _
theorem Good.dropAll {keep : Option Int} : ∀ (l : List Int) {d : Dk}, Good d → Good (dropAll keep l d).2
  | [], _, h => h
  | f :: l, d, h => by
    unfold Ytljfagagopaidaa.dropAll
    split
    · exact Good.dropAll l h
    · split
      · exact h.dropped f
      · exact Good.dropAll l (h.dropped f)
theorem Good.openT {d : Dk} (h : Good d) : Good (openT d).2 := by
  unfold Ytljfagagopaidaa.openT tidyR
  have h1 := Good.dropAll (keep := keepOf' (newLog (newestD d))) (numbers d.files) h
  split
  · exact h1
  · split
    · unfold tidy2
      have h2 : Good (tidyD (newLog (newestD d)) (Ytljfagagopaidaa.dropAll (keepOf' (newLog (newestD d))) (numbers d.files) d).2 (newEnd (newestD d))) := by
        unfold tidyD
        split
        · exact h1.cut _ _
        · exact h1
      split
      · exact h2
      · exact h2.sync _
    · exact h1
theorem good_new' {limit : Int} (h1 : 1 ≤ limit) (h2 : limit ≤ 16777216) : Good (Dk.new limit) := by
  refine ⟨?_, h2, Int.le_refl _, show (0 : Int) ≤ 9223372036854775807 by decide, ?_, ?_, List.Pairwise.nil, ?_⟩
  · show 0 ≤ limit; omega
  · show (0 : Int) ≤ limit; omega
  · intro x hx; exact absurd hx (by simp [Dk.new])
  · intro x hx; exact absurd hx (by simp [Dk.new])
theorem st_new (L : Int) : St (Dk.new L) [] L 0 false := ⟨rfl, rfl, rfl, rfl⟩

/-- A log and its disk, made since w. -/
structure Sn (w W : World) (g m b : Nat) (d : Dk) (l : Lg) : Prop where
  on : On W g m b d l
  new : w.heap.size ≤ g ∧ w.heap.size ≤ m ∧ w.heap.size ≤ b
  fr : Fr (fun _ => False) w W
theorem Sn.next {w W W' : World} {g m b : Nat} {d d' : Dk} {l l' : Lg} (h : Sn w W g m b d l) (h' : On W' g m b d' l') (k : Fr (Three g m b) W W') : Sn w W' g m b d' l' :=
  ⟨h', h.new, h.fr.then_ k (fun i hi e => by have := h.new; rcases e with e | e | e <;> omega)⟩
theorem Sn.nextD {w W W' : World} {g m b : Nat} {d d' : Dk} {l : Lg} (h : Sn w W g m b d l) (h' : DiskAt W' g m d') (k : Fr (Two g m) W W') : Sn w W' g m b d' l := by
  obtain ⟨h2, k2⟩ := h.on.onDisk h' k
  exact h.next h2 k2
theorem Sn.keep {w W W' : World} {g m b : Nat} {d : Dk} {l : Lg} (h : Sn w W g m b d l) (k : Fr (fun _ => False) W W') : Sn w W' g m b d l := ⟨h.on.fr k id id id, h.new, h.fr.trans k⟩
/-- Another log is opened over the disk: the elder one is left. -/
theorem Sn.again {w W W' : World} {g m b b' : Nat} {d d' : Dk} {l l' : Lg} (h : Sn w W g m b d l) (h' : On W' g m b' d' l') (hb : W.heap.size ≤ b') (k : Fr (Two g m) W W') : Sn w W' g m b' d' l' :=
  ⟨h', ⟨h.new.1, h.new.2.1, Nat.le_trans h.fr.size hb⟩, h.fr.then_ k (fun i hi e => by have := h.new; rcases e with e | e <;> omega)⟩
theorem Sn.first {w W W' : World} {g m b : Nat} {d d' : Dk} {l : Lg} (h : Since w W g m d) (h' : On W' g m b d' l) (hb : W.heap.size ≤ b) (k : Fr (Two g m) W W') : Sn w W' g m b d' l :=
  ⟨h', ⟨h.new.1, h.new.2, Nat.le_trans h.fr.size hb⟩, h.fr.then_ k (fun i hi e => by have := h.new; rcases e with e | e <;> omega)⟩

def qA : ByteArray := ⟨#[97]⟩
def qBC : ByteArray := ⟨#[98, 99]⟩
def qX : ByteArray := ⟨#[120]⟩
theorem good_ab : goods [qA, qBC] := by
  intro r hr
  simp only [List.mem_cons, List.not_mem_nil, or_false] at hr
  rcases hr with rfl | rfl
  · exact ⟨by decide, by decide⟩
  · exact ⟨by decide, by decide⟩
theorem good_x : goods [qX] := by
  intro r hr
  simp only [List.mem_cons, List.not_mem_nil, or_false] at hr
  subst hr
  exact ⟨by decide, by decide⟩
theorem size_ab : (framesOf [qA, qBC]).size = 19 := by rw [framesOf_len]; rfl
theorem size_x : (framesOf [qX]).size = 9 := by rw [framesOf_len]; rfl
theorem len_ab : (framesL [qA, qBC]).length ≤ 1099511627776 := by rw [← framesOf_size, size_ab]; decide
theorem len_x : (framesL [qX]).length ≤ 1099511627776 := by rw [← framesOf_size, size_x]; decide

theorem cut_x : holdsR (cutS (logS 1 [qX]) 20) = none := by
  obtain ⟨j, h1, h2, h3⟩ := holds_cut 1 (by decide) (by decide) [qX] good_x 20 (by rw [size_x]; decide)
  have hj : j = 0 := by
    rcases Nat.eq_zero_or_pos j with h | h
    · exact h
    · exfalso
      have hj1 : j = 1 := by simp at h1; omega
      subst hj1
      split at h3
      · have := h3.2
        rw [show [qX].take 1 = [qX] from rfl, size_x] at this
        omega
      · rename_i hc
        exact hc ⟨by decide, by decide⟩
  subst hj
  rw [if_neg (by decide)] at h3
  exact h3

set_option maxHeartbeats 4000000 in
theorem awake17_calls (w : World) : Calls Try.prog 40 #[] w fun e w' => e = .returned (.bool true) ∧ Below w.heap.size w w' := by
  go_enter Try.func40, Try.ntmps40
  go_wp2_with fail
  refine (new_calls _ 1000 (by decide) (by decide)).mono ?_
  rintro e w0 ⟨rfl, h0, k0, hz⟩
  obtain ⟨g, hg⟩ : ∃ g, g = w.heap.size + 1 := ⟨_, rfl⟩
  obtain ⟨m, hm⟩ : ∃ m, m = w.heap.size := ⟨_, rfl⟩
  rw [← hg] at h0 ⊢
  rw [← hm] at h0
  have s0 : Since w w0 g m (Dk.new 1000) := ⟨h0, by omega, k0⟩
  clear hz hg hm h0 k0
  have gd0 : Good (Dk.new 1000) := good_new' (by decide) (by decide)
  have st0 := st_new 1000
  have hn0 := newest_empty st0
  have ho0 := openT_none st0 gd0 hn0
  have hop := open_ok s0.disk gd0 rfl ho0.1
  rw [hn0] at hop
  have st1 := ho0.2
  have gd1 := gd0.openT
  obtain ⟨d1, hd1⟩ : ∃ d1, d1 = (openT (Dk.new 1000)).2 := ⟨_, rfl⟩
  rw [← hd1] at hop st1 gd1
  clear hd1 ho0 hn0 st0 gd0
  go_wp2_with fail
  refine hop.mono ?_
  rintro e w1 ⟨b, A, c, rfl, on1, hc, hC, hb, hA, k1⟩
  clear hop
  have s1 := Sn.first s0 on1 hb k1
  have hl0 : (newOwn (none : Option Own)).length = 0 := rfl
  clear on1 hC hA k1 hb s0
  -- Append("a", "bc")
  have hap := app_none (F := 0) st1 (by decide) (by decide) good_ab (by decide) (by rw [size_ab]; decide)
  have happ : ∀ {W : World} {A : Option Addr} {c : Nat}, On W g m b d1 ⟨0, false, false⟩ → Kd.string.C W A [qA, qBC].length [qA, qBC] → Calls Try.prog 42 #[.pointer (some ⟨b, 0, none⟩), .slice A [qA, qBC].length c] W fun e w' => e = .returned (.int .i64 0) ∧ On w' g m b ((⟨0, false, false⟩ : Lg).appD d1 [qA, qBC]) ⟨0, true, false⟩ ∧ Fr (Three g m b) W w' := by
    intro W A c ho hC
    have := lappend_calls ho gd1.ok' A c _ hC len_ab
    rw [hap.1, hap.2.2] at this
    exact this
  have st2 := hap.2.1
  have gd2 := gd1.lapp ⟨0, false, false⟩ [qA, qBC]
  obtain ⟨d2, hd2⟩ : ∃ d2, d2 = (⟨0, false, false⟩ : Lg).appD d1 [qA, qBC] := ⟨_, rfl⟩
  rw [← hd2] at st2 gd2
  have Happ : ∀ {W : World} {A : Option Addr} {c : Nat}, On W g m b d1 ⟨0, false, false⟩ → Kd.string.C W A [qA, qBC].length [qA, qBC] → Calls Try.prog 42 #[.pointer (some ⟨b, 0, none⟩), .slice A [qA, qBC].length c] W fun e w' => e = .returned (.int .i64 0) ∧ On w' g m b d2 ⟨0, true, false⟩ ∧ Fr (Three g m b) W w' := by
    rw [hd2]; exact happ
  clear happ hap hd2 st1 gd1
  go_wp2_with fail
  have hCab := C_strs w1 [qA, qBC] (by decide)
  have k2 := (Fr.refl (fun _ => False) w1).alloc (.cells (([qA, qBC].map Value.string).toArray) 9)
  have s2 := s1.keep k2
  refine (Happ (c := 2) s2.on hCab).mono ?_
  rintro e w2 ⟨rfl, on3, k3⟩
  have s3 := s2.next on3 k3
  clear Happ hCab k2 k3 on3 s1 s2
  -- Read(0)
  have hr0 := read_calls s3.on.disk 0
  rw [st2.readS (by decide), sAt_one, st2.wrong (by decide)] at hr0
  go_wp2_with fail
  refine hr0.mono ?_
  rintro e w3 ⟨rfl, rfl⟩
  have hz31 : (logS 0 [qA, qBC]).size = 31 := by rw [logS_size, size_ab]
  clear hr0
  -- Compact("x")
  have hco := (comp_St (F := 0) (bg := true) (rs := [qX]) st2 (by decide) (by decide) good_x (by simp) (by
    simp only [bytes, List.map_cons, List.map_nil, List.sum_cons, List.sum_nil]
    rw [hz31, size_x]
    decide)).2.2 (by decide) (by decide) (by decide)
  have gd4 := gd2.lcomp ⟨0, true, false⟩ [qX]
  obtain ⟨R, hR⟩ : ∃ R, R = (⟨0, true, false⟩ : Lg).comp d2 [qX] := ⟨_, rfl⟩
  have hcomp : ∀ {W : World} {A : Option Addr} {c : Nat}, On W g m b d2 ⟨0, true, false⟩ → Kd.string.C W A [qX].length [qX] → Calls Try.prog 43 #[.pointer (some ⟨b, 0, none⟩), .slice A [qX].length c] W fun e w' => e = .returned (.int .i64 0) ∧ On w' g m b R.d ⟨1, true, false⟩ ∧ Fr (Three g m b) W w' := by
    intro W A c ho hC
    have := lcompact_calls ho gd2 A c _ hC len_x (by decide)
    rw [hco.1, hco.2.2, ← hR] at this
    exact this
  rw [← hR] at hco gd4
  obtain ⟨d4, hd4⟩ : ∃ d4, d4 = R.d := ⟨_, rfl⟩
  have st4 := hco.2.1
  rw [← hd4] at st4 gd4 hcomp
  clear hco hR hd4
  go_wp2_with fail
  have hCx := C_strs w2 [qX] (by decide)
  have s4 := s3.keep ((Fr.refl (fun _ => False) w2).alloc (.cells (([qX].map Value.string).toArray) 9))
  refine (hcomp (c := 1) s4.on hCx).mono ?_
  rintro e w4 ⟨rfl, on5, k5⟩
  have s5 := s4.next on5 k5
  clear hcomp hCx s3 s4 on5 k5 st2 gd2
  have hz21 : (logS 1 [qX]).size = 21 := by rw [logS_size, size_x]
  have st4' : St d4 [⟨1, logS 1 [qX], 21⟩] 1000 0 false := by
    have : St d4 [⟨0 + 1, logS (([qX].length : Nat) : Int) [qX], ((logS (([qX].length : Nat) : Int) [qX]).size : Int)⟩] 1000 0 false := st4
    have hl : (([qX].length : Nat) : Int) = 1 := rfl
    rw [hl, hz21] at this
    exact this
  clear st4
  -- Read(1)
  have hr1 := read_calls s5.on.disk 1
  rw [st4'.readS (by decide), sAt_one, st4'.wrong (by decide)] at hr1
  go_wp2_with fail
  refine hr1.mono ?_
  rintro e w5 ⟨rfl, rfl⟩
  clear hr1
  -- Cut(1, 20)
  have hcu := st4'.cut (by decide) (F := 1) (k := 20) (by decide) (by decide) (by rw [sAt_one, hz21]; decide)
  have st6 := hcu.2.2 (by decide)
  unfold cutL at st6
  rw [look_one, if_pos rfl, sAt_one, lay_one] at st6
  have gd6 := gd4.cut 1 20
  have hcc := cut_calls s5.on.disk gd4.ok' 1 20
  rw [hcu.1] at hcc
  obtain ⟨d6, hd6⟩ : ∃ d6, d6 = d4.cut 1 20 := ⟨_, rfl⟩
  rw [← hd6] at st6 gd6 hcc
  have hw20 : ((logS 1 [qX]).size : Int) - 1 = 20 := by rw [hz21]; rfl
  clear hcu hd6
  go_wp2_with fail
  try rw [hw20]
  refine hcc.mono ?_
  rintro e w6 ⟨rfl, h6, k6⟩
  have s6 := s5.nextD h6 k6
  clear hcc h6 k6 s5 st4' gd4
  -- Open
  have hn6 : newestD d6 = none := by rw [newest_one st6 (by decide), cut_x]; rfl
  have ho6 := openT_none st6 gd6 hn6
  have hop := open_ok s6.on.disk gd6 st6.dead ho6.1
  rw [hn6] at hop
  have st7 := ho6.2
  have gd7 := gd6.openT
  obtain ⟨d7, hd7⟩ : ∃ d7, d7 = (openT d6).2 := ⟨_, rfl⟩
  rw [← hd7] at hop st7 gd7
  clear hd7 ho6 hn6 st6 gd6
  go_wp2_with fail
  refine hop.mono ?_
  rintro e w7 ⟨b7, A7, c7, rfl, on7, hc7, hC7, hb7, hA7, k7⟩
  have s7 := s6.again on7 hb7 k7
  clear hop on7 hC7 hA7 k7 hb7 s6
  -- Files
  have hfi := files_calls s7.on.disk gd7.ok'
  have hn7 : numbers d7.files = [] := by rw [st7.files]; simp [numbers, sortZ]
  rw [hn7] at hfi
  have hl7 : (([] : List Int).length : Int) = 0 := rfl
  clear hn7
  go_wp2_with fail
  refine hfi.mono ?_
  rintro e w8 ⟨A8, c8, rfl, hc8, hC8, hA8, k8⟩
  have s8 := s7.keep k8
  clear hfi hC8 hA8
  go_wp2
  go_ret
  exact ⟨rfl, s8.fr.to_below (fun _ _ => id)⟩

end Go.Proofs.Ytljfagagopaidaa
