/- The log's small methods, walked: what is wrong with records, and what is told. -/
import Derived.Test.YtljfagagopaidaaBd
import Derived.Test.YtljfagagopaidaaGd
import Derived.Test.YtljfagagopaidaaDb
import Derived.Deep.RegionHeld3
import Derived.Test.YtljfagagopaidaaFi
namespace Go.Proofs.Ytljfagagopaidaa
open Go.RowKit Go.Proofs.YtljfagagopaidaaW.PrintWords
set_option linter.unusedSimpArgs false
set_option linter.unusedVariables false

structure Lg where
  file : Int
  begun : Bool
  dead : Bool

/-- A log at block b, over the disk at block g. -/
def LogAt (w : World) (b g : Nat) (l : Lg) : Prop := w.heap[b]? = some (.cells #[.pointer (some ⟨g, 0, none⟩), .int .i64 l.file, .bool l.begun, .bool l.dead] 96 (0, 0))

def badR (r : ByteArray) : Bool := decide (r.size = 0) || decide (1000000 < (r.size : Int))
def Lg.wrong (l : Lg) (rs : List ByteArray) : Int := if l.dead then 50 else if rs.any badR then 1 else 0

theorem toList_ne {r : ByteArray} (h0 : ¬ r.size = 0) : r.toList ≠ [] := by
  intro e
  have : r.toList.length = r.size := by rw [Lib.toList_data]; simp
  rw [e] at this
  exact h0 this.symm

theorem bad_calls (r : ByteArray) (w : World) : Calls Try.prog 80 #[.string r] w fun e w' => e = .returned (.bool (badR r)) ∧ w = w' := by
  unfold badR
  by_cases h0 : r.size = 0
  · obtain rfl : r = ByteArray.empty := ByteArray.size_eq_zero_iff.1 h0
    go_enter Try.func80, Try.ntmps80
    go_wp2
    go_ret
    exact ⟨rfl, rfl⟩
  · have h2 := toList_ne h0
    have h1 : r.toList.isEmpty = false := by
      cases h : r.toList with
      | nil => exact absurd h h2
      | cons => rfl
    have hd : decide (r.size = 0) = false := decide_eq_false h0
    go_enter Try.func80, Try.ntmps80
    go_wp2
    go_ret
    exact ⟨by rw [hd, Bool.false_or]; rfl, rfl⟩

theorem any_drop {l : List ByteArray} {i : Nat} (h : i < l.length) : (l.drop i).any badR = (badR (rdOf ByteArray.empty l (i : Int)) || (l.drop (i + 1)).any badR) := by
  rw [List.drop_eq_getElem_cons h, List.any_cons]
  congr 2
  unfold rdOf
  rw [Int.toNat_natCast, List.getD_eq_getElem?_getD, List.getElem?_eq_getElem h]
  rfl

set_option maxRecDepth 100000 in
theorem index_calls (A : Option Addr) (c : Nat) (l : List ByteArray) (w : World) (hC : Kd.string.C w A l.length l) :
    Calls Try.prog 92 #[.slice A l.length c, .func (.func 80) #[] #[]] w fun e w' => ∃ i : Int, e = .returned (.int .i64 i) ∧ decide (0 ≤ i) = l.any badR ∧ -1 ≤ i ∧ i < 9223372036854775807 ∧ w = w' := by
  have hm0 := hC.2.1
  go_enter Try.func92, Try.ntmps92
  go_wp2_with fail
  go_loopg [5, 8] l.length (fun kq v5 v8 wr => ∃ i : Nat, kq + i = l.length ∧ v8 = .int .i64 i ∧ Hid ((l.drop i).any badR = l.any badR) ∧ w = wr)
  case atStart => exact ⟨0, rfl, rfl, rfl, rfl⟩
  case round =>
    obtain ⟨i, hi, rfl, hany, rfl⟩ := hrel
    by_cases hlt : i < l.length
    · have hltI : (i : Int) < (l.length : Int) := by omega
      have h0I : 0 ≤ (i : Int) := by omega
      obtain ⟨ad, rfl, hcell⟩ := Kd.at_string hC (i : Int) h0I hltI
      rw [Int.toNat_natCast] at hcell
      have hd := any_drop hlt
      obtain ⟨r, hr⟩ : ∃ r, r = rdOf ByteArray.empty l (i : Int) := ⟨_, rfl⟩
      rw [← hr] at hcell hd
      clear hr
      have Hd := Lib.hid hd; clear hd
      go_wp2_with fail
      refine (bad_calls r w).mono ?_
      rintro e w1 ⟨rfl, rfl⟩
      cases hb : badR r with
      | true =>
        have Hb := Lib.hid hb; clear hb
        have hfin : l.any badR = true := by rw [← hany.out, Hd.out, Hb.out]; rfl
        have Hfin := Lib.hid hfin; clear hfin
        go_wp2
        go_ret
        exact ⟨(i : Int), rfl, by rw [Hfin.out]; simp, by omega, by omega, rfl⟩
      | false =>
        have Hb := Lib.hid hb; clear hb
        go_wp2
        go_roundg (l.length - (i + 1))
        case measure => omega
        case rel => exact ⟨i + 1, by omega, by go_num, by rw [← hany.out, Hd.out, Hb.out]; rfl, rfl⟩
    · have hge : ¬ ((i : Int) < (l.length : Int)) := by omega
      have hfin : l.any badR = false := by
        rw [← hany.out, List.drop_eq_nil_of_le (by omega)]
        rfl
      have Hfin := Lib.hid hfin; clear hfin
      go_wp2
      go_ret
      exact ⟨-1, rfl, by rw [Hfin.out]; rfl, by omega, by omega, rfl⟩

theorem contains_calls (A : Option Addr) (c : Nat) (l : List ByteArray) (w : World) (hC : Kd.string.C w A l.length l) :
    Calls Try.prog 79 #[.slice A l.length c, .func (.func 80) #[] #[]] w fun e w' => e = .returned (.bool (l.any badR)) ∧ w = w' := by
  go_enter Try.func79, Try.ntmps79
  go_wp2_with fail
  refine (index_calls A c l w hC).mono ?_
  rintro e w1 ⟨i, rfl, hd, h1, h2, rfl⟩
  have Hd := Lib.hid hd; clear hd
  go_wp2
  go_ret
  exact ⟨by rw [Hd.out]; rfl, rfl⟩

theorem lwrong_calls {w : World} {b g : Nat} {l : Lg} (h : LogAt w b g l) (A : Option Addr) (c : Nat) (rs : List ByteArray) (hC : Kd.string.C w A rs.length rs) :
    Calls Try.prog 64 #[.pointer (some ⟨b, 0, none⟩), .slice A rs.length c] w fun e w' => e = .returned (.int .i64 (l.wrong rs)) ∧ w = w' := by
  have c3 : w.cell? ⟨b, 3, none⟩ = some (.bool l.dead) := (cell_blk h 3).trans rfl
  have hcc := contains_calls A c rs w hC
  cases hd : l.dead with
  | true =>
    have hw : l.wrong rs = 50 := by unfold Lg.wrong; rw [hd]; rfl
    have Hw := Lib.hid hw; clear hw
    rw [hd] at c3
    clear hd
    go_enter Try.func64, Try.ntmps64
    go_wp2
    go_ret
    exact ⟨by rw [Hw.out]; rfl, rfl⟩
  | false =>
    rw [hd] at c3
    cases ha : rs.any badR with
    | true =>
      have hw : l.wrong rs = 1 := by unfold Lg.wrong; rw [hd, ha]; rfl
      have Hw := Lib.hid hw; clear hw
      rw [ha] at hcc
      clear hd ha
      go_enter Try.func64, Try.ntmps64
      go_wp2_with fail
      refine hcc.mono ?_
      rintro e w1 ⟨rfl, rfl⟩
      go_wp2
      go_ret
      exact ⟨by rw [Hw.out]; rfl, rfl⟩
    | false =>
      have hw : l.wrong rs = 0 := by unfold Lg.wrong; rw [hd, ha]; rfl
      have Hw := Lib.hid hw; clear hw
      rw [ha] at hcc
      clear hd ha
      go_enter Try.func64, Try.ntmps64
      go_wp2_with fail
      refine hcc.mono ?_
      rintro e w1 ⟨rfl, rfl⟩
      go_wp2
      go_ret
      exact ⟨by rw [Hw.out]; rfl, rfl⟩

theorem lwrong_nil (w : World) (v : Value) : Calls Try.prog 64 #[.pointer none, v] w fun e w' => e = .returned (.int .i64 2) ∧ w = w' := by
  go_enter Try.func64, Try.ntmps64
  go_wp2
  go_ret
  exact ⟨rfl, rfl⟩

def Lg.told (l : Lg) (e : Int) : Lg := { l with dead := l.dead || e == 50 }

theorem LogAt.set {w : World} {b g : Nat} {l : Lg} (h : LogAt w b g l) : LogAt (w.setCell ⟨b, 3, none⟩ (.bool true)) b g { l with dead := true } := by
  unfold LogAt
  rw [set_blk h]
  rfl
theorem LogAt.setF {w : World} {b g : Nat} {l : Lg} (h : LogAt w b g l) (f : Int) : LogAt (w.setCell ⟨b, 1, none⟩ (.int .i64 f)) b g { l with file := f } := by
  unfold LogAt
  rw [set_blk h]
  rfl
theorem LogAt.setB {w : World} {b g : Nat} {l : Lg} (h : LogAt w b g l) (x : Bool) : LogAt (w.setCell ⟨b, 2, none⟩ (.bool x)) b g { l with begun := x } := by
  unfold LogAt
  rw [set_blk h]
  rfl
theorem LogAt.fr {w w' : World} {b g : Nat} {l : Lg} {S : Nat → Prop} (h : LogAt w b g l) (k : Fr S w w') (hb : ¬ S b) : LogAt w' b g l := k.keep h hb

theorem told_calls {w : World} {b g : Nat} {l : Lg} (h : LogAt w b g l) (e0 : Int) :
    Calls Try.prog 67 #[.pointer (some ⟨b, 0, none⟩), .int .i64 e0] w fun e w' => e = .returned (.int .i64 e0) ∧ LogAt w' b g (l.told e0) ∧ Fr (· = b) w w' := by
  have f3 := free_blk h 3
  have c3 : w.cell? ⟨b, 3, none⟩ = some (.bool l.dead) := (cell_blk h 3).trans rfl
  by_cases h5 : e0 = 50
  · subst h5
    have hl : l.told 50 = { l with dead := true } := by unfold Lg.told; simp
    have Hl := Lib.hid hl; clear hl
    have hs := h.set
    go_enter Try.func67, Try.ntmps67
    go_wp2
    go_ret
    exact ⟨rfl, by rw [Hl.out]; exact hs, (Fr.refl (· = b) w).setCell (p := ⟨b, 3, none⟩) (fun _ => rfl) _⟩
  · have hb : (e0 == 50) = false := beq_eq_false_iff_ne.2 h5
    have hl : l.told e0 = l := by unfold Lg.told; rw [hb, Bool.or_false]
    have Hl := Lib.hid hl; clear hl
    go_enter Try.func67, Try.ntmps67
    go_wp2
    go_ret
    exact ⟨rfl, by rw [Hl.out]; exact h, Fr.refl _ w⟩

end Go.Proofs.Ytljfagagopaidaa

/- The log's Append and Sync, walked. -/
namespace Go.Proofs.Ytljfagagopaidaa
open Go.RowKit Go.Proofs.YtljfagagopaidaaW.PrintWords
set_option linter.unusedSimpArgs false
set_option linter.unusedVariables false

/-- What a log appends. -/
def Lg.data (l : Lg) (rs : List ByteArray) : ByteArray := if l.begun then framesOf rs else framesOf [big4 0] ++ framesOf rs
def Lg.goes (l : Lg) (rs : List ByteArray) : Bool := l.wrong rs == 0 && !rs.isEmpty
/-- Append: what it answers, and what becomes of disk and log. -/
def Lg.appE (l : Lg) (d : Dk) (rs : List ByteArray) : Int := if l.goes rs then d.appendE l.file (l.data rs) else l.wrong rs
def Lg.appD (l : Lg) (d : Dk) (rs : List ByteArray) : Dk := if l.goes rs then d.append l.file (l.data rs) else d
def Lg.app (l : Lg) (d : Dk) (rs : List ByteArray) : Lg := if l.goes rs then { (l.told (d.appendE l.file (l.data rs))) with begun := l.begun || d.appendE l.file (l.data rs) == 0 } else l

def Three (g m b : Nat) : Nat → Prop := fun k => k = g ∨ k = m ∨ k = b

structure On (w : World) (g m b : Nat) (d : Dk) (l : Lg) : Prop where
  disk : DiskAt w g m d
  log : LogAt w b g l

theorem On.ne {w : World} {g m b : Nat} {d : Dk} {l : Lg} (h : On w g m b d l) : ¬ Two g m b := by
  rintro (rfl | rfl)
  · have := h.disk.blk
    rw [h.log] at this
    injection this with this
    injection this with _ h2
    cases h2
  · obtain ⟨es, clock, hm, _⟩ := h.disk.map
    have := h.log
    unfold LogAt at this
    rw [hm] at this
    cases this
theorem On.fr {w w' : World} {g m b : Nat} {d : Dk} {l : Lg} {S : Nat → Prop} (h : On w g m b d l) (k : Fr S w w') (hg : ¬ S g) (hm : ¬ S m) (hb : ¬ S b) : On w' g m b d l := ⟨h.disk.fr k hg hm, h.log.fr k hb⟩
theorem On.onDisk {w w' : World} {g m b : Nat} {d d2 : Dk} {l : Lg} (h : On w g m b d l) (h2 : DiskAt w' g m d2) (k : Fr (Two g m) w w') : On w' g m b d2 l ∧ Fr (Three g m b) w w' :=
  ⟨⟨h2, h.log.fr k h.ne⟩, k.mono (fun _ _ e => by rcases e with e | e; exact .inl e; exact .inr (.inl e))⟩
theorem On.onLog {w w' : World} {g m b : Nat} {d : Dk} {l l2 : Lg} (h : On w g m b d l) (h2 : LogAt w' b g l2) (k : Fr (· = b) w w') : On w' g m b d l2 ∧ Fr (Three g m b) w w' :=
  ⟨⟨h.disk.fr k (fun e => h.ne (.inl e.symm)) (fun e => h.ne (.inr e.symm)), h2⟩, k.mono (fun _ _ e => .inr (.inr e))⟩
theorem On.c0 {w : World} {g m b : Nat} {d : Dk} {l : Lg} (h : On w g m b d l) : w.cell? ⟨b, 0, none⟩ = some (.pointer (some ⟨g, 0, none⟩)) := (cell_blk h.log 0).trans rfl
theorem On.c1 {w : World} {g m b : Nat} {d : Dk} {l : Lg} (h : On w g m b d l) : w.cell? ⟨b, 1, none⟩ = some (.int .i64 l.file) := (cell_blk h.log 1).trans rfl
theorem On.c2 {w : World} {g m b : Nat} {d : Dk} {l : Lg} (h : On w g m b d l) : w.cell? ⟨b, 2, none⟩ = some (.bool l.begun) := (cell_blk h.log 2).trans rfl
theorem On.drew {w : World} {g m b : Nat} {d : Dk} {l : Lg} (h : On w g m b d l) : On w.drew g m b d l := h.fr ((Fr.refl (fun _ => False) w).drew) id id id

theorem framesOf_size (l : List ByteArray) : (framesOf l).size = (framesL l).length := by simp [framesOf, ByteArray.size]
theorem big40_size : (framesOf [big4 0]).size = 12 := by
  rw [framesOf_size]
  simp only [framesL, List.flatMap_cons, List.flatMap_nil, List.append_nil]
  rw [ba_length, frame_size, big4_size]

/-- A list of one text, that is made. -/
theorem C_one (w : World) (s : ByteArray) : Kd.string.C (w.alloc (.cells #[.string s] 9)) (some ⟨w.heap.size, 0, none⟩) [s].length [s] := by
  refine ⟨rfl, by simp, fun hn => ⟨_, rfl, fun j p hj => ⟨[.string p], rfl, rfl, fun i u hu => ?_⟩⟩⟩
  match j, i, hj, hu with
  | 0, 0, hj, hu =>
    have hj' : s = p := by simpa using hj
    subst hj'
    have hu' : Value.string s = u := by simpa using hu
    subst hu'
    exact (cell_blk (heap_alloc_new w _) 0).trans rfl
  | 0, i + 1, hj, hu => simp at hu
  | j + 1, _, hj, _ => simp at hj

set_option maxRecDepth 100000 in
set_option maxHeartbeats 1600000 in
theorem lappend_calls {w : World} {g m b : Nat} {d : Dk} {l : Lg} (h : On w g m b d l) (ok : d.Ok) (A : Option Addr) (c : Nat) (rs : List ByteArray) (hC : Kd.string.C w A rs.length rs) (hz : (framesL rs).length ≤ 1099511627776) :
    Calls Try.prog 42 #[.pointer (some ⟨b, 0, none⟩), .slice A rs.length c] w fun e w' => e = .returned (.int .i64 (l.appE d rs)) ∧ On w' g m b (l.appD d rs) (l.app d rs) ∧ Fr (Three g m b) w w' := by
  cases hg : l.goes rs with
  | false =>
    have e1 : l.appE d rs = l.wrong rs := by unfold Lg.appE; rw [hg]; rfl
    have e2 : l.appD d rs = d := by unfold Lg.appD; rw [hg]; rfl
    have e3 : l.app d rs = l := by unfold Lg.app; rw [hg]; rfl
    have E := Lib.hid (And.intro e1 (And.intro e2 e3))
    clear e1 e2 e3
    cases hw : (l.wrong rs != 0) with
    | true =>
      go_enter Try.func42, Try.ntmps42
      go_wp2_with fail
      refine (lwrong_calls h.log A c rs hC).mono ?_
      rintro e w1 ⟨rfl, rfl⟩
      go_wp2
      go_ret
      exact ⟨by rw [E.out.1]; rfl, by rw [E.out.2.1, E.out.2.2]; exact h, Fr.refl _ w⟩
    | false =>
      have hw0 : l.wrong rs = 0 := by simpa using hw
      have hnil : rs = [] := by
        unfold Lg.goes at hg
        rw [hw0] at hg
        simpa using hg
      subst hnil
      rw [hw0] at E
      have Hw := Lib.hid hw0; clear hw0
      have hl0 : (([] : List ByteArray).length : Int) = 0 := rfl
      go_enter Try.func42, Try.ntmps42
      go_wp2_with fail
      refine (lwrong_calls h.log A c [] hC).mono ?_
      rintro e w1 ⟨he, rfl⟩
      rw [Hw.out] at he
      subst he
      go_wp2
      go_ret
      exact ⟨by rw [E.out.1]; rfl, by rw [E.out.2.1, E.out.2.2]; exact h, Fr.refl _ w⟩
  | true =>
    have hw0 : l.wrong rs = 0 := by
      unfold Lg.goes at hg
      rw [Bool.and_eq_true] at hg
      exact beq_iff_eq.1 hg.1
    have hne : 0 < rs.length := by
      unfold Lg.goes at hg
      rw [Bool.and_eq_true] at hg
      cases rs with
      | nil => cases hg.2
      | cons => simp
    have hneI : ((rs.length : Int) == 0) = false := beq_eq_false_iff_ne.2 (by omega)
    have e1 : l.appE d rs = d.appendE l.file (l.data rs) := by unfold Lg.appE; rw [hg]; rfl
    have e2 : l.appD d rs = d.append l.file (l.data rs) := by unfold Lg.appD; rw [hg]; rfl
    have e3 : l.app d rs = { (l.told (d.appendE l.file (l.data rs))) with begun := l.begun || d.appendE l.file (l.data rs) == 0 } := by unfold Lg.app; rw [hg]; rfl
    have E := Lib.hid (And.intro e1 (And.intro e2 e3))
    clear e1 e2 e3 hg
    have hcall := lwrong_calls h.log A c rs hC
    rw [hw0] at hcall
    clear hw0
    have c2 := h.c2
    cases hbg : l.begun with
    | true =>
      rw [hbg] at c2
      have hdata : l.data rs = framesOf rs := by unfold Lg.data; rw [hbg]; rfl
      rw [hdata, hbg] at E
      have hbz : (framesOf rs).size ≤ 140737488355328 := by rw [framesOf_size]; omega
      have Hb := Lib.hid hbg
      clear hdata hbg
      go_enter Try.func42, Try.ntmps42
      go_wp2_with fail
      refine hcall.mono ?_
      rintro e w1 ⟨rfl, rfl⟩
      clear hcall
      go_wp2_with fail
      refine (frames_calls A c rs w hC hz).mono ?_
      rintro e w1 ⟨rfl, b1⟩
      have k1 := Fr.of_below (S := fun _ => False) b1
      have on1 := h.fr k1 id id id
      have c2' := on1.c2
      rw [Hb.out] at c2'
      clear c2
      have p0 := on1.c0
      have p1 := on1.c1
      go_wp2_with fail
      go_region_held3 (fun w' => w'.cell? ⟨b, 0, none⟩ = some (.pointer (some ⟨g, 0, none⟩)) ∧ w'.cell? ⟨b, 1, none⟩ = some (.int .i64 l.file)) (go_keep)
        ((first | (go_at_call 14; refine (append_calls on1.drew.disk ok l.file _ hbz).mono ?_; rintro e w2 ⟨rfl, h2, k2⟩; obtain ⟨on2, j2⟩ := on1.drew.onDisk h2 k2; have q0 := on2.c0; have q1 := on2.c1) | (go_at_call 67; refine (told_calls on2.log _).mono ?_; rintro e w3 ⟨rfl, h3, k3⟩; obtain ⟨on3, j3⟩ := on2.onLog h3 k3; have r0 := on3.c0; have r1 : w3.cell? ⟨b, 1, none⟩ = some (.int .i64 l.file) := on3.c1)))
      have r2 : w3.cell? ⟨b, 2, none⟩ = some (.bool true) := by have := on3.c2; rw [show (l.told (d.appendE l.file (framesOf rs))).begun = l.begun from rfl, Hb.out] at this; exact this
      have hfz := free_blk on3.log 2
      have jj := ((k1.none_ (S := Three g m b)).trans (((Fr.refl (Three g m b) w1).drew).trans j2)).trans j3
      clear p0 p1 q0 q1 r0 r1 on2 on1
      go_wp2
      go_ret
      exact ⟨by rw [E.out.1]; rfl, by rw [E.out.2.1, E.out.2.2]; exact ⟨on3.disk.fr (((Fr.refl (· = b) w3).setCell (p := ⟨b, 2, none⟩) (fun _ => rfl) _)) (fun e => on3.ne (.inl e.symm)) (fun e => on3.ne (.inr e.symm)), on3.log.setB true⟩, jj.setCell (p := ⟨b, 2, none⟩) (fun _ => .inr (.inr rfl)) _⟩
    | false =>
      rw [hbg] at c2
      have hdata : l.data rs = framesOf [big4 0] ++ framesOf rs := by unfold Lg.data; rw [hbg]; rfl
      rw [hdata, hbg] at E
      have hbz : (framesOf [big4 0] ++ framesOf rs).size ≤ 140737488355328 := by rw [ByteArray.size_append, framesOf_size rs, big40_size]; omega
      have hsum : (framesOf [big4 0]).size + (framesOf rs).size ≤ 9223372036854775807 := by rw [framesOf_size rs, big40_size]; omega
      have hz1 : (framesL [big4 0]).length ≤ 1099511627776 := by rw [← framesOf_size, big40_size]; decide
      have Hb := Lib.hid hbg
      clear hdata hbg
      go_enter Try.func42, Try.ntmps42
      go_wp2_with fail
      refine hcall.mono ?_
      rintro e w1 ⟨rfl, rfl⟩
      clear hcall
      go_wp2_with fail
      refine (frames_calls A c rs w hC hz).mono ?_
      rintro e w0 ⟨rfl, b0⟩
      have k0 := Fr.of_below (S := fun _ => False) b0
      have on0 := h.fr k0 id id id
      have c2' := on0.c2
      rw [Hb.out] at c2'
      clear c2
      go_wp2_with fail
      refine (Lf.seglog_big.calls 0 _ w0 (big_f 0)).mono ?_
      rintro e w4 ⟨rfl, b4⟩
      have hone := C_one w4 (big4 0)
      go_wp2_with fail
      refine (frames_calls _ _ [big4 0] _ hone hz1).mono ?_
      rintro e w1 ⟨rfl, b1⟩
      have k1 : Fr (fun _ => False) w w1 := (k0.trans (Fr.of_below b4)).trans (((Fr.refl (fun _ => False) w4).alloc _).trans (Fr.of_below b1))
      have on1 := h.fr k1 id id id
      clear hone b4 b1 c2' on0
      have p0 := on1.c0
      have p1 := on1.c1
      go_wp2_with fail
      go_region_held3 (fun w' => w'.cell? ⟨b, 0, none⟩ = some (.pointer (some ⟨g, 0, none⟩)) ∧ w'.cell? ⟨b, 1, none⟩ = some (.int .i64 l.file)) (go_keep)
        ((first | (go_at_call 14; refine (append_calls on1.drew.disk ok l.file _ hbz).mono ?_; rintro e w2 ⟨rfl, h2, k2⟩; obtain ⟨on2, j2⟩ := on1.drew.onDisk h2 k2; have q0 := on2.c0; have q1 := on2.c1) | (go_at_call 67; refine (told_calls on2.log _).mono ?_; rintro e w3 ⟨rfl, h3, k3⟩; obtain ⟨on3, j3⟩ := on2.onLog h3 k3; have r0 := on3.c0; have r1 : w3.cell? ⟨b, 1, none⟩ = some (.int .i64 l.file) := on3.c1)))
      have r2 : w3.cell? ⟨b, 2, none⟩ = some (.bool false) := by have := on3.c2; rw [show (l.told (d.appendE l.file (framesOf [big4 0] ++ framesOf rs))).begun = l.begun from rfl, Hb.out] at this; exact this
      have hfz := free_blk on3.log 2
      have jj := ((k1.none_ (S := Three g m b)).trans (((Fr.refl (Three g m b) w1).drew).trans j2)).trans j3
      clear p0 p1 q0 q1 r0 r1 on2 on1
      cases he : (d.appendE l.file (framesOf [big4 0] ++ framesOf rs) == 0) with
      | true =>
        rw [he] at E
        have he2 : d.appendE l.file (framesOf [big4 0] ++ framesOf rs) = 0 := beq_iff_eq.1 he
        go_wp2
        go_ret
        exact ⟨by rw [E.out.1]; rfl, by rw [E.out.2.1, E.out.2.2]; exact ⟨on3.disk.fr (((Fr.refl (· = b) w3).setCell (p := ⟨b, 2, none⟩) (fun _ => rfl) _)) (fun e => on3.ne (.inl e.symm)) (fun e => on3.ne (.inr e.symm)), on3.log.setB true⟩, jj.setCell (p := ⟨b, 2, none⟩) (fun _ => .inr (.inr rfl)) _⟩
      | false =>
        rw [he] at E
        go_wp2
        go_ret
        exact ⟨by rw [E.out.1]; rfl, by rw [E.out.2.1, E.out.2.2]; exact ⟨on3.disk.fr (((Fr.refl (· = b) w3).setCell (p := ⟨b, 2, none⟩) (fun _ => rfl) _)) (fun e => on3.ne (.inl e.symm)) (fun e => on3.ne (.inr e.symm)), on3.log.setB false⟩, jj.setCell (p := ⟨b, 2, none⟩) (fun _ => .inr (.inr rfl)) _⟩

end Go.Proofs.Ytljfagagopaidaa

/- The log's Sync and Compact, walked. -/
namespace Go.Proofs.Ytljfagagopaidaa
open Go.RowKit Go.Proofs.YtljfagagopaidaaW.PrintWords
set_option linter.unusedSimpArgs false
set_option linter.unusedVariables false

theorem apart_few {l : List Fl} (ha : Apart l) (hk : ∀ x ∈ l, 0 ≤ x.k ∧ x.k < 65536) : l.length ≤ 65536 := by
  have hp := List.mergeSort_perm l (fun a b => decide (a.k ≤ b.k))
  have hs := List.pairwise_mergeSort (le := fun (a b : Fl) => decide (a.k ≤ b.k)) (by intro a b c; simp; omega) (by intro a b; simp; omega) l
  have ha' : (l.mergeSort (fun a b => decide (a.k ≤ b.k))).Pairwise (fun a b => a.k ≠ b.k) := hp.symm.pairwise ha (fun h => fun e => h e.symm)
  have hlt : (l.mergeSort (fun a b => decide (a.k ≤ b.k))).Pairwise (fun a b => a.k < b.k) := by
    refine (hs.and ha').imp (fun h => ?_)
    have h1 := of_decide_eq_true h.1
    have h2 := h.2
    omega
  have := srt_few 0 65536 _ hlt (fun x hx => hk x (hp.mem_iff.1 hx))
  rw [hp.length_eq] at this
  rcases this with h | h
  · omega
  · have := hp.length_eq
    rw [h] at this
    simp at this
    omega
theorem Good.few {d : Dk} (h : Good d) : d.files.length ≤ 65536 := apart_few h.apart h.keys
theorem Good.ok' {d : Dk} (h : Good d) : d.Ok := h.ok h.few

/-! ### Sync -/
def Lg.goesS (l : Lg) : Bool := l.wrong [] == 0 && l.begun
def Lg.syncE (l : Lg) (d : Dk) : Int := if l.goesS then d.changeE l.file else l.wrong []
def Lg.syncD (l : Lg) (d : Dk) : Dk := if l.goesS then d.sync l.file else d
def Lg.sync (l : Lg) (d : Dk) : Lg := if l.goesS then l.told (d.changeE l.file) else l

theorem C_nil (w : World) : Kd.string.C w none ([] : List ByteArray).length [] := ⟨rfl, by decide, fun h => absurd h (by decide)⟩

set_option maxRecDepth 100000 in
set_option maxHeartbeats 1600000 in
theorem lsync_calls {w : World} {g m b : Nat} {d : Dk} {l : Lg} (h : On w g m b d l) (ok : d.Ok) :
    Calls Try.prog 45 #[.pointer (some ⟨b, 0, none⟩)] w fun e w' => e = .returned (.int .i64 (l.syncE d)) ∧ On w' g m b (l.syncD d) (l.sync d) ∧ Fr (Three g m b) w w' := by
  have c2 := h.c2
  have hcall := lwrong_calls h.log none 0 [] (C_nil w)
  cases hw : (l.wrong [] != 0) with
  | true =>
    have hg : l.goesS = false := by
      unfold Lg.goesS
      have : l.wrong [] ≠ 0 := by simpa using hw
      rw [beq_eq_false_iff_ne.2 this]; rfl
    have e1 : l.syncE d = l.wrong [] := by unfold Lg.syncE; rw [hg]; rfl
    have e2 : l.syncD d = d := by unfold Lg.syncD; rw [hg]; rfl
    have e3 : l.sync d = l := by unfold Lg.sync; rw [hg]; rfl
    have E := Lib.hid (And.intro e1 (And.intro e2 e3))
    clear e1 e2 e3 hg
    go_enter Try.func45, Try.ntmps45
    go_wp2_with fail
    refine hcall.mono ?_
    rintro e w1 ⟨rfl, rfl⟩
    go_wp2
    go_ret
    exact ⟨by rw [E.out.1]; rfl, by rw [E.out.2.1, E.out.2.2]; exact h, Fr.refl _ w⟩
  | false =>
    have hw0 : l.wrong [] = 0 := by simpa using hw
    rw [hw0] at hcall
    cases hbg : l.begun with
    | false =>
      rw [hbg] at c2
      have hg : l.goesS = false := by unfold Lg.goesS; rw [hw0, hbg]; rfl
      have e1 : l.syncE d = 0 := by unfold Lg.syncE; rw [hg]; exact hw0
      have e2 : l.syncD d = d := by unfold Lg.syncD; rw [hg]; rfl
      have e3 : l.sync d = l := by unfold Lg.sync; rw [hg]; rfl
      have E := Lib.hid (And.intro e1 (And.intro e2 e3))
      clear e1 e2 e3 hg hw0 hw hbg
      go_enter Try.func45, Try.ntmps45
      go_wp2_with fail
      refine hcall.mono ?_
      rintro e w1 ⟨rfl, rfl⟩
      go_wp2
      go_ret
      exact ⟨by rw [E.out.1]; rfl, by rw [E.out.2.1, E.out.2.2]; exact h, Fr.refl _ w⟩
    | true =>
      rw [hbg] at c2
      have hg : l.goesS = true := by unfold Lg.goesS; rw [hw0, hbg]; rfl
      have e1 : l.syncE d = d.changeE l.file := by unfold Lg.syncE; rw [hg]; rfl
      have e2 : l.syncD d = d.sync l.file := by unfold Lg.syncD; rw [hg]; rfl
      have e3 : l.sync d = l.told (d.changeE l.file) := by unfold Lg.sync; rw [hg]; rfl
      have E := Lib.hid (And.intro e1 (And.intro e2 e3))
      clear e1 e2 e3 hg hw0 hw hbg
      have p0 := h.c0
      have p1 := h.c1
      go_enter Try.func45, Try.ntmps45
      go_wp2_with fail
      refine hcall.mono ?_
      rintro e w1 ⟨rfl, rfl⟩
      go_wp2_with fail
      go_region_held3 (fun w' => w'.cell? ⟨b, 0, none⟩ = some (.pointer (some ⟨g, 0, none⟩)) ∧ w'.cell? ⟨b, 1, none⟩ = some (.int .i64 l.file)) (go_keep)
        ((first | (go_at_call 15; refine (sync_calls h.drew.disk ok l.file).mono ?_; rintro e w2 ⟨rfl, h2, k2⟩; obtain ⟨on2, j2⟩ := h.drew.onDisk h2 k2; have q0 := on2.c0; have q1 := on2.c1) | (go_at_call 67; refine (told_calls on2.log _).mono ?_; rintro e w3 ⟨rfl, h3, k3⟩; obtain ⟨on3, j3⟩ := on2.onLog h3 k3; have r0 := on3.c0; have r1 : w3.cell? ⟨b, 1, none⟩ = some (.int .i64 l.file) := on3.c1)))
      have jj := (((Fr.refl (Three g m b) w).drew).trans j2).trans j3
      go_wp2
      go_ret
      exact ⟨by rw [E.out.1]; rfl, by rw [E.out.2.1, E.out.2.2]; exact on3, jj⟩

/-! ### Compact -/
structure Res where
  e : Int
  d : Dk
  l : Lg
def Lg.cdata (rs : List ByteArray) : ByteArray := framesOf [big4 rs.length] ++ framesOf rs
def Lg.comp3 (l : Lg) (d : Dk) (file : Int) : Res :=
  if d.changeE l.file ≠ 0 then ⟨d.changeE l.file, d.dropped l.file, l.told (d.changeE l.file)⟩
  else ⟨0, d.dropped l.file, { (l.told (d.changeE l.file)) with file := file, begun := true }⟩
def Lg.comp2 (l : Lg) (d : Dk) (file : Int) : Res :=
  if d.changeE file ≠ 0 then ⟨d.changeE file, d.sync file, l.told (d.changeE file)⟩
  else (l.told (d.changeE file)).comp3 (d.sync file) file
def Lg.comp1 (l : Lg) (d : Dk) (file : Int) (data : ByteArray) : Res :=
  if d.appendE file data ≠ 0 then ⟨d.appendE file data, d.append file data, l.told (d.appendE file data)⟩
  else (l.told (d.appendE file data)).comp2 (d.append file data) file
def Lg.comp (l : Lg) (d : Dk) (rs : List ByteArray) : Res :=
  if l.wrong rs ≠ 0 then ⟨l.wrong rs, d, l⟩ else l.comp1 d (l.file + 1) (Lg.cdata rs)

theorem one_size (n : Int) : (framesL [big4 n]).length = 12 := by
  simp only [framesL, List.flatMap_cons, List.flatMap_nil, List.append_nil]
  rw [ba_length, frame_size, big4_size]
theorem cdata_size (rs : List ByteArray) : (Lg.cdata rs).size = 12 + (framesL rs).length := by
  unfold Lg.cdata
  rw [ByteArray.size_append, framesOf_size rs, framesOf_size [big4 _], one_size]

set_option maxRecDepth 100000 in
set_option maxHeartbeats 4000000 in
theorem lcompact_calls {w : World} {g m b : Nat} {d : Dk} {l : Lg} (h : On w g m b d l) (gd : Good d) (A : Option Addr) (c : Nat) (rs : List ByteArray) (hC : Kd.string.C w A rs.length rs) (hz : (framesL rs).length ≤ 1099511627776) (hf : 0 ≤ l.file ∧ l.file ≤ 65536) :
    Calls Try.prog 43 #[.pointer (some ⟨b, 0, none⟩), .slice A rs.length c] w fun e w' => e = .returned (.int .i64 (l.comp d rs).e) ∧ On w' g m b (l.comp d rs).d (l.comp d rs).l ∧ Fr (Three g m b) w w' := by
  have hcall := lwrong_calls h.log A c rs hC
  cases hw : (l.wrong rs != 0) with
  | true =>
    have hw1 : l.wrong rs ≠ 0 := by simpa using hw
    have e1 : l.comp d rs = ⟨l.wrong rs, d, l⟩ := by unfold Lg.comp; rw [if_pos hw1]
    have E := Lib.hid e1
    clear e1 hw1
    go_enter Try.func43, Try.ntmps43
    go_wp2_with fail
    refine hcall.mono ?_
    rintro e w1 ⟨rfl, rfl⟩
    go_wp2
    go_ret
    exact ⟨by rw [E.out]; rfl, by rw [E.out]; exact h, Fr.refl _ w⟩
  | false =>
    have hw0 : l.wrong rs = 0 := by simpa using hw
    rw [hw0] at hcall
    have e1 : l.comp d rs = l.comp1 d (l.file + 1) (Lg.cdata rs) := by unfold Lg.comp; rw [if_neg (by simpa using hw0)]
    have E := Lib.hid e1
    clear e1 hw0 hw
    have p1 := h.c1
    have hf0 := hf.1
    have hf1 := hf.2
    have hbz : (Lg.cdata rs).size ≤ 140737488355328 := by rw [cdata_size]; omega
    have hsum : (framesOf [big4 (rs.length : Int)]).size + (framesOf rs).size ≤ 9223372036854775807 := by rw [framesOf_size rs, framesOf_size [big4 _], one_size]; omega
    have hz1 : (framesL [big4 (rs.length : Int)]).length ≤ 1099511627776 := by rw [one_size]; decide
    have hcd : framesOf [big4 (rs.length : Int)] ++ framesOf rs = Lg.cdata rs := rfl
    have Hcd := Lib.hid hcd; clear hcd
    go_enter Try.func43, Try.ntmps43
    go_wp2_with fail
    refine hcall.mono ?_
    rintro e w1 ⟨rfl, rfl⟩
    clear hcall
    go_wp2_with fail
    refine (Lf.seglog_big.calls _ _ w (big_f _)).mono ?_
    rintro e w4 ⟨rfl, b4⟩
    have hone := C_one w4 (big4 (rs.length : Int))
    have k4 : Fr (fun _ => False) w (w4.alloc (.cells #[.string (big4 (rs.length : Int))] 9)) := (Fr.of_below b4).alloc _
    go_wp2_with fail
    refine (frames_calls _ _ [big4 (rs.length : Int)] _ hone hz1).mono ?_
    rintro e w5 ⟨rfl, b5⟩
    have k5 := k4.trans (Fr.of_below (S := fun _ => False) b5)
    have hC5 := Kd.C_below (Kd.C_below (w1 := w4.alloc (.cells #[.string (big4 (rs.length : Int))] 9)) hC (k4.to_below (fun _ _ => id))) b5
    clear hone b4 b5 k4
    go_wp2_with fail
    refine (frames_calls A c rs w5 hC5 hz).mono ?_
    rintro e w6 ⟨rfl, b6⟩
    have k6 := k5.trans (Fr.of_below (S := fun _ => False) b6)
    have on6 := h.fr k6 id id id
    have j6 : Fr (Three g m b) w w6 := k6.none_
    clear hC5 k5 b6 k6 p1 hz1
    have p0 := on6.c0
    have p1 := on6.c1
    go_wp2_with fail
    rw [Hcd.out]
    refine (append_calls on6.disk gd.ok' (l.file + 1) (Lg.cdata rs) hbz).mono ?_
    rintro e w7 ⟨rfl, h7, k7⟩
    obtain ⟨on7, j7⟩ := on6.onDisk h7 k7
    have gd7 := gd.append (l.file + 1) (Lg.cdata rs)
    have J7 := j6.trans j7
    go_wp2_with fail
    refine (told_calls on7.log _).mono ?_
    rintro e w8 ⟨rfl, h8, k8⟩
    obtain ⟨on8, j8⟩ := on7.onLog h8 k8
    have J8 := J7.trans j8
    clear p0 p1 on7 h7 k7 h8 k8 j6 j7 j8 J7 on6
    cases he1 : (d.appendE (l.file + 1) (Lg.cdata rs) != 0) with
    | true =>
      have h1 : d.appendE (l.file + 1) (Lg.cdata rs) ≠ 0 := by simpa using he1
      have E1 := Lib.hid (E.out.trans (show l.comp1 d (l.file + 1) (Lg.cdata rs) = _ by unfold Lg.comp1; rw [if_pos h1]))
      clear h1
      go_wp2
      go_ret
      exact ⟨by rw [E1.out]; rfl, by rw [E1.out]; exact on8, J8⟩
    | false =>
      have h1 : d.appendE (l.file + 1) (Lg.cdata rs) = 0 := by simpa using he1
      have E1 := Lib.hid (E.out.trans (show l.comp1 d (l.file + 1) (Lg.cdata rs) = _ by unfold Lg.comp1; rw [if_neg (by simpa using h1)]))
      clear E
      obtain ⟨d1, hd1⟩ : ∃ d1, d1 = d.append (l.file + 1) (Lg.cdata rs) := ⟨_, rfl⟩
      obtain ⟨l1, hl1⟩ : ∃ l1, l1 = l.told (d.appendE (l.file + 1) (Lg.cdata rs)) := ⟨_, rfl⟩
      have hf1' : l1.file = l.file := by rw [hl1]; rfl
      rw [← hd1] at on8 gd7
      rw [← hl1] at on8
      rw [← hd1, ← hl1] at E1
      have He1 := Lib.hid h1; clear h1
      clear hd1 hl1
      have p0 := on8.c0
      go_wp2_with fail
      refine (sync_calls on8.disk gd7.ok' (l.file + 1)).mono ?_
      rintro e w9 ⟨rfl, h9, k9⟩
      obtain ⟨on9, j9⟩ := on8.onDisk h9 k9
      have gd9 := gd7.sync (l.file + 1)
      have J9 := J8.trans j9
      go_wp2_with fail
      refine (told_calls on9.log _).mono ?_
      rintro e w10 ⟨rfl, h10, k10⟩
      obtain ⟨on10, j10⟩ := on9.onLog h10 k10
      have J10 := J9.trans j10
      clear p0 on8 on9 h9 k9 h10 k10 J8 j9 j10 J9 gd7
      cases he2 : (d1.changeE (l.file + 1) != 0) with
      | true =>
        have h1 : d1.changeE (l.file + 1) ≠ 0 := by simpa using he2
        have E2 := Lib.hid (E1.out.trans (show l1.comp2 d1 (l.file + 1) = _ by unfold Lg.comp2; rw [if_pos h1]))
        clear h1
        go_wp2
        go_ret
        exact ⟨by rw [E2.out]; rfl, by rw [E2.out]; exact on10, J10⟩
      | false =>
        have h1 : d1.changeE (l.file + 1) = 0 := by simpa using he2
        have E2 := Lib.hid (E1.out.trans (show l1.comp2 d1 (l.file + 1) = _ by unfold Lg.comp2; rw [if_neg (by simpa using h1)]))
        clear E1
        obtain ⟨d2, hd2⟩ : ∃ d2, d2 = d1.sync (l.file + 1) := ⟨_, rfl⟩
        obtain ⟨l2, hl2⟩ : ∃ l2, l2 = l1.told (d1.changeE (l.file + 1)) := ⟨_, rfl⟩
        have hf2 : l2.file = l.file := by rw [hl2]; exact hf1'
        rw [← hd2] at on10 gd9
        rw [← hl2] at on10
        rw [← hd2, ← hl2] at E2
        have He2 := Lib.hid h1; clear h1
        have Hf2 := Lib.hid hf2
        have p0 := on10.c0
        have p1 : w10.cell? ⟨b, 1, none⟩ = some (.int .i64 l.file) := by have := on10.c1; rw [hf2] at this; exact this
        clear hd2 hl2 hf2 hf1'
        go_wp2_with fail
        go_region_held3 (fun w' => w'.cell? ⟨b, 0, none⟩ = some (.pointer (some ⟨g, 0, none⟩)) ∧ w'.cell? ⟨b, 1, none⟩ = some (.int .i64 l.file)) (go_keep)
          ((first | (go_at_call 26; refine (drop_calls on10.drew.disk gd9.ok' l.file).mono ?_; rintro e w11 ⟨rfl, h11, k11⟩; obtain ⟨on11, j11⟩ := on10.drew.onDisk h11 k11; have q0 := on11.c0; have q1 : w11.cell? ⟨b, 1, none⟩ = some (.int .i64 l.file) := by (have := on11.c1; rw [Hf2.out] at this; exact this)) | (go_at_call 67; refine (told_calls on11.log _).mono ?_; rintro e w12 ⟨rfl, h12, k12⟩; obtain ⟨on12, j12⟩ := on11.onLog h12 k12; have r0 := on12.c0; have r1 : w12.cell? ⟨b, 1, none⟩ = some (.int .i64 l.file) := by (have := on12.c1; rw [show (l2.told (d2.changeE l.file)).file = l2.file from rfl, Hf2.out] at this; exact this))))
        have J12 := ((J10.trans ((Fr.refl (Three g m b) w10).drew)).trans j11).trans j12
        have hfz1 := free_blk on12.log 1
        have hfz2 := free_blk on12.log 2
        have E2' := Lib.hid (E2.out)
        have r2 := on12.c2
        clear p0 p1 q0 q1 r0 on10 on11 j11 j12 J10 h11 k11 h12 k12
        cases he3 : (d2.changeE l.file != 0) with
        | true =>
          have h1 : d2.changeE l2.file ≠ 0 := by rw [Hf2.out]; simpa using he3
          have E3 := Lib.hid (E2.out.trans (show l2.comp3 d2 (l.file + 1) = _ by unfold Lg.comp3; rw [if_pos h1, Hf2.out]))
          clear h1 E2'
          go_wp2
          go_ret
          exact ⟨by rw [E3.out]; rfl, by rw [E3.out]; exact on12, J12⟩
        | false =>
          have h1 : d2.changeE l2.file = 0 := by rw [Hf2.out]; simpa using he3
          have E3 := Lib.hid (E2.out.trans (show l2.comp3 d2 (l.file + 1) = _ by unfold Lg.comp3; rw [if_neg (by simpa using h1), Hf2.out]))
          clear h1 E2'
          go_wp2
          go_ret
          refine ⟨by rw [E3.out]; rfl, by rw [E3.out]; exact ⟨on12.disk.fr ((((Fr.refl (· = b) w12).setCell (p := ⟨b, 1, none⟩) (fun _ => rfl) _)).setCell (p := ⟨b, 2, none⟩) (fun _ => rfl) _) (fun e => on12.ne (.inl e.symm)) (fun e => on12.ne (.inr e.symm)), (on12.log.setF (l.file + 1)).setB true⟩, (J12.setCell (p := ⟨b, 1, none⟩) (fun _ => .inr (.inr rfl)) _).setCell (p := ⟨b, 2, none⟩) (fun _ => .inr (.inr rfl)) _⟩

end Go.Proofs.Ytljfagagopaidaa

/- The disk's Files, with the row that it makes; and a row of numbers turned round. -/
namespace Go.Proofs.Ytljfagagopaidaa
open Go.RowKit Go.Maps Go.Sort Go.Shelf Go.Proofs.YtljfagagopaidaaW.PrintWords
set_option linter.unusedSimpArgs false
set_option linter.unusedVariables false

set_option maxHeartbeats 1000000 in
theorem files_own {w : World} {g m : Nat} {d : Dk} (h : DiskAt w g m d) (ok : d.Ok) :
    Calls Try.prog 32 #[.pointer (some ⟨g, 0, none⟩)] w fun e w' => ∃ v, e = .returned v ∧ w'.ownsRow w.heap.size 3 1 v (numbers d.files).length ((numbers d.files).map (Value.int .i64)) ∧ Fr (fun _ => False) w w' := by
  obtain ⟨D0, hown, hperm, hsize⟩ := h.map.owns ok.keys
  have hmax : Maps.size D0 ≤ maxLen := by have := ok.many; rw [hsize]; unfold maxLen; omega
  have hbytes : Maps.size D0 * 8 ≤ 140737488355328 := by have := ok.many; rw [hsize]; omega
  have c0 : w.cell? ⟨g, 0, none⟩ = some (.map (some m)) := (cell_blk h.blk 0).trans rfl
  refine (callsIn_wide (n := 6)).1 ?_
  have hbl := hown.lt
  have hsorts : ∀ n : Nat, AnyZI.SortsIn Try.prog Try.sorted60_ren Fence.wide n := fun n =>
    ⟨fun blk off cap ss W hH hblk hsz => callsIn_wide.2 (Try.slices_Sort_int blk off cap ss W hH hblk hsz), fun p cap W => callsIn_wide.2 (Try.slices_Sort_int_none p cap W)⟩
  have hseq : SeqGives Fence.wide 2 Try.prog 76 #[.pointer (some ⟨w.heap.size, 0, none⟩)] encZ (fun ss => ss.Perm (intKeys D0)) (Maps.size D0) (w.alloc (.cells #[.map (some m)] 73)) :=
    AnyZI.keys_gives (ρ := Try.keys61_ren) { Try.keys61 with } Fence.wide _ trivial rfl (by omega) w.heap.size m d.files.length D0 _ (by simp) (by simp) (by
      obtain ⟨es, clock, hb, Ft, hs, hD⟩ := hown
      exact ⟨es, clock, (Below.heap_alloc _ _ m hbl).trans hb, Ft, hs, hD⟩)
  have cK : ∀ mb W, CallsIn Fence.wide 5 Try.prog 61 #[.map mb] W fun e w' => e = .returned (.func (.func 76) #[] #[.pointer (some ⟨W.heap.size, 0, none⟩)]) ∧ w' = W.alloc (.cells #[.map mb] 73) := fun mb W => AnyZI.keys_in Try.keys61 Fence.wide 5 trivial rfl mb W
  have cS := AnyZI.sorted_in Try.sorted60 Fence.wide 5 trivial trivial trivial trivial rfl (by omega) (hsorts _) (enters_of Try.func75 (by kernel_rfl) rfl) 76 #[.pointer (some ⟨w.heap.size, 0, none⟩)] trivial (enters_of Try.func76 (by kernel_rfl) rfl) _ _ hmax hbytes _ hseq
  change CallsIn _ _ Try.prog 60 _ _ _ at cS
  have hfK : Fence.wide.fn 61 := trivial
  have hfS : Fence.wide.fn 60 := trivial
  clear hmax hbytes hsize
  refine callsIn_of_wp Try.func32 rfl trivial ?_ rfl
  simp only [Try.ntmps32, List.size_toArray, List.length_cons, List.length_nil, Nat.reduceAdd, Nat.reduceSub, Array.replicate_succ, Array.replicate_zero, List.push_toArray, List.append_toArray, List.nil_append, List.cons_append]
  gi_wp2_with (first
    | (gi_at_call 61; refine (cK _ _).mono ?_; rintro e w' ⟨rfl, rfl⟩)
    | (gi_at_call 60; refine cS.mono ?_; rintro e w' ⟨v, ss, rfl, hS, hrow, hnil, hb⟩))
  go_ret
  have hns : (ss.mergeSort fun x y => decide (x ≤ y)) = numbers d.files := mergeSort_of_perm_i (hS.trans hperm)
  have hln : ss.length = (numbers d.files).length := by rw [← hns, List.length_mergeSort]
  rw [hns, hln] at hrow
  exact ⟨v, rfl, own_weaken hrow (by simp), ((Fr.refl _ w).alloc _).trans (Fr.of_below hb)⟩

theorem Fr.of_modify {w : World} (blk : Nat) (f : Array Value → Array Value) : Fr (· = blk) w (mapBlock w blk f) :=
  ⟨rfl, rfl, rfl, by simp [mapBlock], fun k _ hn => by
    show (w.heap.modify blk _)[k]? = _
    rw [Array.getElem?_modify, if_neg (fun e => hn e.symm)]⟩

/-- A row of numbers of the call's own, turned round. -/
theorem reverse_own {w : World} {base : Nat} {v : Value} {xs : List Int} (h : w.ownsRow base 3 1 v xs.length (xs.map (Value.int .i64))) (hx : xs.length ≤ 4611686018427387904) :
    ∃ A c, v = .slice A xs.length c ∧ Calls Try.prog 77 #[.slice A xs.length c] w fun e w' => e = .returned (.tuple #[]) ∧ (Kd.int .i64).C w' A xs.length xs.reverse ∧ (∀ a, A = some a → base ≤ a.block ∧ a.block < w.heap.size) ∧ Fr (fun k => base ≤ k) w w' := by
  obtain ⟨A, c, rfl, hc, hC, hA⟩ := C_of_own h
  cases A with
  | none =>
    have h0 : xs.length = 0 := by
      rcases Nat.eq_zero_or_pos xs.length with h0 | h0
      · exact h0
      · obtain ⟨a, ha, _⟩ := hC.2.2 h0
        cases ha
    have hn : xs = [] := List.eq_nil_of_length_eq_zero h0
    subst hn
    refine ⟨none, c, rfl, ?_⟩
    refine (Try.slices_Reverse_int_empty none c w).mono ?_
    rintro e w' ⟨rfl, rfl⟩
    exact ⟨rfl, ⟨rfl, by decide, fun h => absurd h (by decide)⟩, (fun a ha => by cases ha), Fr.refl _ _⟩
  | some ad =>
    obtain ⟨g, rfl⟩ : ∃ g, ad = ⟨g, 0, none⟩ := by
      rcases h.2 with ⟨he, _⟩ | ⟨g, cap, cur, he, _⟩
      · cases he
      · injection he with he
        injection he with he
        exact ⟨g, he⟩
    have hH : Holds (Value.int .i64) w g 0 xs.toArray := by
      intro j hj
      have hj' : j < xs.length := by simpa using hj
      refine ⟨?_, h.frozenAt _⟩
      rw [Nat.zero_add, h.cellAt j (by omega), getElem!_pos _ j hj]
      simp [hj']
    refine ⟨some ⟨g, 0, none⟩, c, rfl, ?_⟩
    refine (Try.slices_Reverse_int g 0 c xs w hH (by omega)).mono ?_
    rintro e w' ⟨rfl, n, rfl⟩
    have hg : base ≤ g := hA _ rfl
    refine ⟨rfl, ⟨by simp, hC.2.1, fun hn => ⟨_, rfl, fun j p hj => ⟨[.int .i64 p], rfl, rfl, fun i u hu => ?_⟩⟩⟩, fun a ha => ?_, ?_⟩
    · match i, hu with
      | 0, hu =>
        have hu' : Value.int .i64 p = u := by simpa using hu
        subst hu'
        show World.cell? _ ((⟨g, 0, none⟩ : Addr).add (j * 1 + 0)) = _
        have hjl : j < xs.reverse.length := (List.getElem?_eq_some_iff.1 hj).1
        rw [Nat.mul_one, Nat.add_zero, show (⟨g, 0, none⟩ : Addr).add j = ⟨g, 0 + j, none⟩ from by unfold Addr.add; split <;> simp_all]
        rw [cell?_putRow (Value.int .i64) (Sort.ahead w n) g 0 xs.toArray xs.reverse.toArray (holds_ahead _ _ _ _ _ _ hH) (by simp) j (by simpa using hjl)]
        rw [getElem!_pos _ j (by simpa using hjl)]
        rw [List.getElem?_eq_getElem hjl] at hj
        injection hj with hj
        simp only [List.getElem_toArray]
        rw [hj]
      | i + 1, hu => simp at hu
    · injection ha with ha
      rw [← ha]
      refine ⟨hg, ?_⟩
      rcases h.2 with ⟨he, _⟩ | ⟨g', cap, cur, he, _, hh, _⟩
      · cases he
      · injection he with he
        injection he with he
        injection he with he
        show g < _
        rw [he]
        exact (Array.getElem?_eq_some_iff.1 hh).1
    · refine (Fr.mono (S := (· = g)) (Fr.trans (w' := Sort.ahead w n) ⟨rfl, rfl, rfl, Nat.le_refl _, fun _ _ _ => rfl⟩ (Fr.of_modify g _)) (fun k _ e => by rw [e]; exact hg))
end Go.Proofs.Ytljfagagopaidaa

/- The log's Open: the newest file that holds, and the disk tidied; walked. -/
namespace Go.Proofs.Ytljfagagopaidaa
open Go.RowKit Go.Proofs.YtljfagagopaidaaW.PrintWords
set_option linter.unusedSimpArgs false
set_option linter.unusedVariables false

structure Own where
  file : Int
  own : List ByteArray
  end_ : Int
/-- The first one of these files that holds. -/
def newestF (d : Dk) : List Int → Option Own
  | [] => none
  | f :: fs => match holdsR (d.readS f) with
    | some (own, n) => some ⟨f, own, n⟩
    | none => newestF d fs
theorem newestF_some {d : Dk} {f : Int} {fs : List Int} {own : List ByteArray} {n : Int} (h : holdsR (d.readS f) = some (own, n)) : newestF d (f :: fs) = some ⟨f, own, n⟩ := by
  unfold newestF
  rw [h]
theorem newestF_none {d : Dk} {f : Int} {fs : List Int} (h : holdsR (d.readS f) = none) : newestF d (f :: fs) = newestF d fs := by
  conv => lhs; unfold newestF
  rw [h]
def newLog : Option Own → Lg
  | none => ⟨0, false, false⟩
  | some o => ⟨o.file, true, false⟩
def newOwn : Option Own → List ByteArray
  | none => []
  | some o => o.own
def newEnd : Option Own → Int
  | none => 0
  | some o => o.end_

theorem readS_size {d : Dk} (h : Sound d.files) (f : Int) : (d.readS f).size ≤ 16777216 := by
  unfold Dk.readS
  split
  · decide
  · exact (sound_at h f).2.2

theorem results_tmp4 {fn : Func} {t u v x : Tmp} (h : fn.results = #[.tmp t, .tmp u, .tmp v, .tmp x]) (tmps : Array Value) (P : Program) (w : World) :
    (results fn tmps).run P w = .ok (.tuple #[tmps.getD t undef, tmps.getD u undef, tmps.getD v undef, tmps.getD x undef]) w := by
  simp [results, h]

/-- A row that a call has made, as it is read. -/
theorem Q_open {W : World} {base : Nat} {ok : Nat → Prop} {v : Value} {xs : List ByteArray} (h : Kd.Q Kd.string 9 W base ok v xs) :
    ∃ A c, v = .slice A xs.length c ∧ xs.length ≤ c ∧ Kd.string.C W A xs.length xs ∧ ∀ a, A = some a → base ≤ a.block := by
  obtain ⟨A, c, rfl, hl, hC⟩ := Kd.Q_reads h
  have hb := (Kd.Q_bound h).1
  refine ⟨A, c, rfl, hl, hC, fun a ha => ?_⟩
  subst ha
  exact (hb a.block (by simp [Value.ownBlock])).2.1

set_option maxRecDepth 100000 in
set_option maxHeartbeats 4000000 in
theorem newest_calls {w : World} {g m : Nat} {d : Dk} (h : DiskAt w g m d) (gd : Good d) (hdead : d.dead = false) :
    Calls Try.prog 62 #[.pointer (some ⟨g, 0, none⟩)] w fun e w' => ∃ (b : Nat) (A : Option Addr) (c : Nat), e = .returned (.tuple #[.pointer (some ⟨b, 0, none⟩), .slice A (newOwn (newestF d (numbers d.files).reverse)).length c, .int .i64 (newEnd (newestF d (numbers d.files).reverse)), .int .i64 0]) ∧
      On w' g m b d (newLog (newestF d (numbers d.files).reverse)) ∧ (newOwn (newestF d (numbers d.files).reverse)).length ≤ c ∧ Kd.string.C w' A (newOwn (newestF d (numbers d.files).reverse)).length (newOwn (newestF d (numbers d.files).reverse)) ∧ w.heap.size ≤ b ∧ (∀ a, A = some a → w.heap.size ≤ a.block ∧ a.block ≠ b) ∧ Fr (fun _ => False) w w' := by
  have ok := gd.ok'
  obtain ⟨fs, hfs⟩ : ∃ fs, fs = (numbers d.files).reverse := ⟨_, rfl⟩
  rw [← hfs]
  have Hfs := Lib.hid hfs; clear hfs
  go_enter Try.func62, Try.ntmps62
  go_wp2_with fail
  obtain ⟨b, hb⟩ : ∃ b, b = w.heap.size := ⟨_, rfl⟩
  have hbox := heap_alloc_new w (.cells #[.pointer (some ⟨g, 0, none⟩), .int .i64 0, .bool false, .bool false] 96)
  have h1 := h.alloc (.cells #[.pointer (some ⟨g, 0, none⟩), .int .i64 0, .bool false, .bool false] 96)
  have k1 := (Fr.refl (fun _ => False) w).alloc (.cells #[.pointer (some ⟨g, 0, none⟩), .int .i64 0, .bool false, .bool false] 96)
  rw [← hb] at hbox ⊢
  have Hb := Lib.hid hb; clear hb
  have on1 : On (w.alloc (.cells #[.pointer (some ⟨g, 0, none⟩), .int .i64 0, .bool false, .bool false] 96)) g m b d ⟨0, false, false⟩ := ⟨h1, hbox⟩
  refine (files_own h1 ok).mono ?_
  rintro e w2 ⟨v, rfl, hrow, k2⟩
  have hfew : (numbers d.files).length ≤ 65536 := by
    have : (numbers d.files).length = d.files.length := by unfold numbers sortZ; rw [List.length_mergeSort, List.length_map]
    rw [this]; exact gd.few
  obtain ⟨A, c, rfl, hrev⟩ := reverse_own hrow (by omega)
  have on2 := on1.fr k2 id id id
  have hbs : b < (w.alloc (.cells #[.pointer (some ⟨g, 0, none⟩), .int .i64 0, .bool false, .bool false] 96)).heap.size := lt_blk hbox
  go_wp2_with fail
  refine hrev.mono ?_
  rintro e w3 ⟨rfl, hC, hA, k3⟩
  have on3 := on2.fr (S := fun k => w.heap.size + 1 ≤ k) (k3.mono (fun k _ e => by simpa using e)) (by have := lt_blk h.blk; omega) (by have := h.map.lt; omega) (by have := Hb.out; omega)
  have kk : Fr (fun _ => False) w w3 := ((k1.trans k2).none_ (S := fun k => w.heap.size + 1 ≤ k)).trans (k3.mono (fun k _ e => by simpa using e)) |>.mono (fun k hk e => by omega)
  have hAb : ∀ a, A = some a → w.heap.size < a.block := fun a ha => by have := (hA a ha).1; simp at this; omega
  have hCC : (Kd.int .i64).C w3 A (numbers d.files).reverse.length (numbers d.files).reverse := by rw [List.length_reverse]; exact hC
  have hfs := Hfs.out
  have hln : (numbers d.files).length = fs.length := by rw [hfs, List.length_reverse]
  have hkeys : ∀ f ∈ fs, 0 ≤ f ∧ f < 65536 := by
    intro f hf
    rw [hfs, List.mem_reverse] at hf
    have : f ∈ d.files.map Fl.k := by
      unfold numbers sortZ at hf
      exact (List.mergeSort_perm _ _).mem_iff.1 hf
    obtain ⟨x, hx, rfl⟩ := List.mem_map.1 this
    exact gd.keys x hx
  rw [← hfs] at hCC
  rw [hln] at hfew ⊢
  clear hfs hln hrow hC hA k1 k2 k3 on1 on2 h1 hbox hbs
  have hm0 := hCC.2.1
  go_wp2_with fail
  go_loopg [9, 10, 11, 12, 13, 14, 24] fs.length (fun kq v9 v10 v11 v12 v13 v14 v24 wr => ∃ i : Nat, kq + i = fs.length ∧ v24 = .int .i64 i ∧ On wr g m b d ⟨0, false, false⟩ ∧ (Kd.int .i64).C wr A fs.length fs ∧ Fr (fun _ => False) w wr ∧ Hid (newestF d (fs.drop i) = newestF d fs))
  case atStart => exact ⟨0, rfl, rfl, on3, hCC, kk, rfl⟩
  case round =>
    obtain ⟨i, hi, rfl, on, hC, k, hnew⟩ := hrel
    by_cases hlt : i < fs.length
    · have hltI : (i : Int) < (fs.length : Int) := by omega
      have h0I : 0 ≤ (i : Int) := by omega
      obtain ⟨ad, hAd, hcell⟩ := Kd.at_int hC (i : Int) h0I hltI
      rw [Int.toNat_natCast] at hcell
      have hdr := List.drop_eq_getElem_cons hlt
      have hrd : rd fs (i : Int) = fs[i] := by unfold rd; rw [Int.toNat_natCast, List.getD_eq_getElem?_getD, List.getElem?_eq_getElem hlt]; rfl
      rw [hrd] at hcell
      have hfk := hkeys _ (List.getElem_mem hlt)
      obtain ⟨f, hf⟩ : ∃ f, f = fs[i] := ⟨_, rfl⟩
      rw [← hf] at hcell hdr hfk
      rw [hdr] at hnew
      clear hrd hf hdr
      have hwr : d.wrong f = 0 := by unfold Dk.wrong; rw [hdead, if_neg (by simp), if_neg (by omega)]
      have hread := read_calls on.disk f
      rw [hwr] at hread
      have hsz := readS_size gd.sound f
      subst hAd
      clear hwr hm0
      go_wp2_with fail
      refine hread.mono ?_
      rintro e w4 ⟨rfl, rfl⟩
      clear hread
      obtain ⟨kf, hkf⟩ := (found_ev (d.readS f) (by omega)).rounds
      cases hh : holdsR (d.readS f) with
      | none =>
        have hV : foundV (d.readS f) = ([], 0, false) := by unfold foundV; rw [hh]
        rw [hV] at hkf
        have hnx := (newestF_none hh).symm.trans hnew.out
        have Hnx := Lib.hid hnx; clear hnx hV hh hnew
        go_wp2_with fail
        refine (Lf.seglog_found.calls kf _ _ _ _ _ hkf).mono ?_
        rintro e w5 ⟨v0, rfl, hQ, b5⟩
        have k5 := Fr.of_below (S := fun _ => False) b5
        have on5 := on.fr k5 id id id
        have hC5 := C_fr (flat_int _) hC k5 (fun _ _ => id)
        have kk5 := k.trans k5
        clear hkf hQ b5
        go_wp2
        go_roundg (fs.length - (i + 1))
        case measure => omega
        case rel => exact ⟨i + 1, by omega, by go_num, on5, hC5, kk5, Hnx.out⟩
      | some p =>
        obtain ⟨own, n⟩ := p
        have hV : foundV (d.readS f) = (own, n, true) := by unfold foundV; rw [hh]
        rw [hV] at hkf
        have hnx : newestF d fs = some ⟨f, own, n⟩ := hnew.out.symm.trans (newestF_some hh)
        have Hnx := Lib.hid hnx; clear hnx hV hh hnew
        go_wp2_with fail
        refine (Lf.seglog_found.calls kf _ _ _ _ _ hkf).mono ?_
        rintro e w5 ⟨v0, rfl, hQ, b5⟩
        have k5 := Fr.of_below (S := fun _ => False) b5
        have on5 := on.fr k5 id id id
        have kk5 := k.trans k5
        obtain ⟨A5, c5, rfl, hl5, hC5, hA5⟩ := Q_open hQ
        have hfz1 := free_blk on5.log 1
        have hfz2 := free_blk on5.log 2
        have q1 := on5.c1
        have q2 := on5.c2
        have hbl := lt_blk on.log
        clear hkf hQ b5
        go_wp2
        ((try simp only [Exit.inBlock, Exit.then]); refine bodyPost_ret (results_tmp4 rfl _ _ _) rfl ?_)
        rw [Hnx.out]
        have kset : ∀ (S : Nat → Prop) (x y : Value), S b → Fr S w5 ((w5.setCell ⟨b, 1, none⟩ x).setCell ⟨b, 2, none⟩ y) := fun S x y hS => ((Fr.refl S w5).setCell (p := ⟨b, 1, none⟩) (fun _ => hS) x).setCell (p := ⟨b, 2, none⟩) (fun _ => hS) y
        have hge : w.heap.size ≤ b := by have := Hb.out; omega
        refine ⟨b, A5, c5, rfl, ⟨on5.disk.fr (kset (· = b) _ _ rfl) (fun e => on5.ne (.inl e.symm)) (fun e => on5.ne (.inr e.symm)), (on5.log.setF f).setB true⟩, hl5, C_fr flat_string hC5 (kset (· = b) _ _ rfl) (fun a ha e => by have := hA5 a ha; omega), hge, (fun a ha => ⟨by have := hA5 a ha; omega, by have := hA5 a ha; omega⟩), (kk5.none_ (S := (· = b))).trans (kset (· = b) _ _ rfl) |>.mono (fun q hq e => by omega)⟩
    · have hge : ¬ ((i : Int) < (fs.length : Int)) := by omega
      have hnx : newestF d fs = none := by
        rw [← hnew.out, List.drop_eq_nil_of_le (by omega)]
        rfl
      have Hnx := Lib.hid hnx; clear hnx hnew
      have hgeb : w.heap.size ≤ b := by have := Hb.out; omega
      go_wp2
      ((try simp only [Exit.inBlock, Exit.then]); refine bodyPost_ret (results_tmp4 rfl _ _ _) rfl ?_)
      rw [Hnx.out]
      exact ⟨b, none, 0, rfl, on, Nat.le_refl _, C_nil wr, hgeb, (fun a ha => by cases ha), k⟩

end Go.Proofs.Ytljfagagopaidaa

/- The log's tidy, walked: all other files dropped, the log's own one cut off and synced. -/
namespace Go.Proofs.Ytljfagagopaidaa
open Go.RowKit Go.Proofs.YtljfagagopaidaaW.PrintWords
set_option linter.unusedSimpArgs false
set_option linter.unusedVariables false

/-- Files dropped, up to the first fault. -/
def dropAll (keep : Option Int) : List Int → Dk → Int × Dk
  | [], d => (0, d)
  | f :: fs, d => if keep = some f then dropAll keep fs d else if d.changeE f ≠ 0 then (d.changeE f, d.dropped f) else dropAll keep fs (d.dropped f)
theorem dropAll_keep {keep : Option Int} {f : Int} {fs : List Int} {d : Dk} (h : keep = some f) : dropAll keep (f :: fs) d = dropAll keep fs d := by
  conv => lhs; unfold dropAll
  rw [if_pos h]
theorem dropAll_bad {keep : Option Int} {f : Int} {fs : List Int} {d : Dk} (h : keep ≠ some f) (he : d.changeE f ≠ 0) : dropAll keep (f :: fs) d = (d.changeE f, d.dropped f) := by
  conv => lhs; unfold dropAll
  rw [if_neg h, if_pos he]
theorem dropAll_on {keep : Option Int} {f : Int} {fs : List Int} {d : Dk} (h : keep ≠ some f) (he : d.changeE f = 0) : dropAll keep (f :: fs) d = dropAll keep fs (d.dropped f) := by
  conv => lhs; unfold dropAll
  rw [if_neg h, if_neg (by simpa using he)]
def keepOf' (l : Lg) : Option Int := if l.begun then some l.file else none
def tidyC (l : Lg) (d : Dk) (n : Int) : Bool := d.wrong l.file == 0 && decide (n < ((d.readS l.file).size : Int))
def tidyE (l : Lg) (d : Dk) (n : Int) : Int := if tidyC l d n then d.cutE l.file n else d.wrong l.file
def tidyD (l : Lg) (d : Dk) (n : Int) : Dk := if tidyC l d n then d.cut l.file n else d
def tidy2 (l : Lg) (d : Dk) (n : Int) : Int × Dk :=
  if tidyE l d n ≠ 0 then (tidyE l d n, tidyD l d n) else ((tidyD l d n).changeE l.file, (tidyD l d n).sync l.file)
def tidyR (l : Lg) (d : Dk) (n : Int) : Int × Dk :=
  if (dropAll (keepOf' l) (numbers d.files) d).1 ≠ 0 then dropAll (keepOf' l) (numbers d.files) d
  else if l.begun then tidy2 l (dropAll (keepOf' l) (numbers d.files) d).2 n else (0, (dropAll (keepOf' l) (numbers d.files) d).2)

set_option maxRecDepth 100000 in
set_option maxHeartbeats 4000000 in
theorem tidy_calls {w : World} {g m b : Nat} {d : Dk} {l : Lg} (h : On w g m b d l) (gd : Good d) (n : Int) (hn : -9223372036854775808 ≤ n ∧ n ≤ 9223372036854775807) :
    Calls Try.prog 63 #[.pointer (some ⟨b, 0, none⟩), .int .i64 n] w fun e w' => e = .returned (.int .i64 (tidyR l d n).1) ∧ On w' g m b (tidyR l d n).2 l ∧ Fr (Two g m) w w' := by
  have p0 := h.c0
  obtain ⟨fs, hfs⟩ : ∃ fs, fs = numbers d.files := ⟨_, rfl⟩
  obtain ⟨R, hR⟩ : ∃ R, R = tidyR l d n := ⟨_, rfl⟩
  rw [← hR]
  have HR := Lib.hid hR; clear hR
  have hfiles := files_calls h.disk gd.ok'
  rw [← hfs] at hfiles
  have Hfs := Lib.hid hfs; clear hfs
  have hgm := Lib.hid (And.intro (lt_blk h.disk.blk) h.disk.map.lt)
  go_enter Try.func63, Try.ntmps63
  go_wp2_with fail
  refine hfiles.mono ?_
  rintro e w1 ⟨A, c, rfl, hc, hC, hA, k1⟩
  clear hfiles
  have on1 := h.fr k1 id id id
  have hAg : ∀ a, A = some a → ¬ Two g m a.block := fun a ha e => by
    have h1 := hA a ha
    have h2 := hgm.out
    rcases e with e | e <;> omega
  have hm0 := hC.2.1
  clear hA p0 hc
  have kk : Fr (Two g m) w w1 := k1.none_
  clear k1
  go_wp2_with fail
  go_loopg [6, 7, 16] fs.length (fun kq v6 v7 v16 wr => ∃ (i : Nat) (d' : Dk), kq + i = fs.length ∧ v16 = .int .i64 i ∧ On wr g m b d' l ∧ Good d' ∧ (Kd.int .i64).C wr A fs.length fs ∧ Fr (Two g m) w wr ∧ Hid (dropAll (keepOf' l) (fs.drop i) d' = dropAll (keepOf' l) fs d))
  case atStart => exact ⟨0, d, rfl, rfl, on1, gd, hC, kk, rfl⟩
  case round =>
    obtain ⟨i, d', hi, rfl, on, gd', hC', k, hdrop⟩ := hrel
    have p0 := on.c0
    have p1 := on.c1
    have p2 := on.c2
    clear on1 kk hC
    by_cases hlt : i < fs.length
    · have hltI : (i : Int) < (fs.length : Int) := by omega
      have h0I : 0 ≤ (i : Int) := by omega
      obtain ⟨ad, hAd, hcell⟩ := Kd.at_int hC' (i : Int) h0I hltI
      rw [Int.toNat_natCast] at hcell
      have hdr := List.drop_eq_getElem_cons hlt
      have hrd : rd fs (i : Int) = fs[i] := by unfold rd; rw [Int.toNat_natCast, List.getD_eq_getElem?_getD, List.getElem?_eq_getElem hlt]; rfl
      rw [hrd] at hcell
      obtain ⟨f, hf⟩ : ∃ f, f = fs[i] := ⟨_, rfl⟩
      rw [← hf] at hcell hdr
      rw [hdr] at hdrop
      clear hrd hf hdr
      subst hAd
      by_cases hk : keepOf' l = some f
      · have hbg : l.begun = true := by
          unfold keepOf' at hk
          cases hb : l.begun with
          | true => rfl
          | false => rw [hb] at hk; cases hk
        have hff : l.file = f := by
          unfold keepOf' at hk
          rw [hbg] at hk
          injection hk
        have hd2 := (dropAll_keep hk).symm.trans hdrop.out
        have Hd2 := Lib.hid hd2; clear hd2 hdrop
        have Hk := Lib.hid hk; clear hk
        rw [hbg] at p2
        rw [hff] at p1
        clear hbg hff
        go_wp2
        go_roundg (fs.length - (i + 1))
        case measure => omega
        case rel => exact ⟨i + 1, d', by omega, by go_num, on, gd', hC', k, Hd2.out⟩
      · have hhead : l.begun = false ∨ (l.begun = true ∧ (f == l.file) = false) := by
          cases hb : l.begun with
          | false => exact .inl rfl
          | true =>
            right
            refine ⟨rfl, beq_eq_false_iff_ne.2 (fun e => hk ?_)⟩
            unfold keepOf'
            rw [hb, e]
            rfl
        have Hk := Lib.hid hk; clear hk
        have hdc := drop_calls on.disk gd'.ok' f
        cases he : (d'.changeE f != 0) with
        | true =>
          have he1 : d'.changeE f ≠ 0 := by simpa using he
          have hfin := (dropAll_bad Hk.out he1).symm.trans hdrop.out
          have hRR : R = (d'.changeE f, d'.dropped f) := by
            rw [HR.out]
            unfold tidyR
            rw [← Hfs.out, ← hfin, if_pos he1]
          have HRR := Lib.hid hRR
          clear hRR hfin he1 hdrop
          rcases hhead with hb | ⟨hb, hbf⟩
          all_goals
            rw [hb] at p2
            clear hb
            go_wp2_with fail
            refine hdc.mono ?_
            rintro e w4 ⟨rfl, h4, k4⟩
            obtain ⟨on4, j4⟩ := on.onDisk h4 k4
            go_wp2
            go_ret
            exact ⟨by rw [HRR.out]; rfl, by rw [HRR.out]; exact on4, k.trans k4⟩
        | false =>
          have he1 : d'.changeE f = 0 := by simpa using he
          have hd2 := (dropAll_on Hk.out he1).symm.trans hdrop.out
          have Hd2 := Lib.hid hd2
          have He1 := Lib.hid he1
          clear hd2 he1 hdrop
          rcases hhead with hb | ⟨hb, hbf⟩
          all_goals
            rw [hb] at p2
            clear hb
            go_wp2_with fail
            refine hdc.mono ?_
            rintro e w4 ⟨rfl, h4, k4⟩
            obtain ⟨on4, j4⟩ := on.onDisk h4 k4
            have hC4 := C_fr (flat_int _) hC' k4 hAg
            go_wp2
            go_roundg (fs.length - (i + 1))
            case measure => omega
            case rel => exact ⟨i + 1, d'.dropped f, by omega, by go_num, on4, gd'.dropped f, hC4, k.trans k4, Hd2.out⟩
    · have hge : ¬ ((i : Int) < (fs.length : Int)) := by omega
      have hdf : dropAll (keepOf' l) fs d = (0, d') := by
        rw [← hdrop.out, List.drop_eq_nil_of_le (by omega)]
        rfl
      cases hb : l.begun with
      | false =>
        have hRR : R = (0, d') := by
          rw [HR.out]
          unfold tidyR
          rw [← Hfs.out, hdf, hb]
          rfl
        have HRR := Lib.hid hRR
        clear hRR hdf hdrop
        rw [hb] at p2
        clear hb
        go_wp2
        go_ret
        exact ⟨by rw [HRR.out]; rfl, by rw [HRR.out]; exact on, k⟩
      | true =>
        have hRR : R = tidy2 l d' n := by
          rw [HR.out]
          unfold tidyR
          rw [← Hfs.out, hdf, hb]
          rfl
        have HRR := Lib.hid hRR
        clear hRR hdf hdrop
        rw [hb] at p2
        clear hb
        have hread := read_calls on.drew.disk l.file
        by_cases hw : d'.wrong l.file = 0
        · rw [hw] at hread
          by_cases hsz : n < ((d'.readS l.file).size : Int)
          · have hT : tidyC l d' n = true := by unfold tidyC; rw [hw, decide_eq_true hsz]; rfl
            have e1 : tidyE l d' n = d'.cutE l.file n := by unfold tidyE; rw [hT]; rfl
            have e2 : tidyD l d' n = d'.cut l.file n := by unfold tidyD; rw [hT]; rfl
            have hcut : ∀ {W : World}, On W g m b d' l → _ := fun {W} o => cut_calls (w := W) o.disk gd'.ok' l.file n
            cases he : (d'.cutE l.file n != 0) with
            | true =>
              have he1 : d'.cutE l.file n ≠ 0 := by simpa using he
              have hR2 : R = (d'.cutE l.file n, d'.cut l.file n) := by rw [HRR.out]; unfold tidy2; rw [e1, e2, if_pos he1]
              have HRR2 := Lib.hid hR2
              clear hR2 he1 e1 e2 hT hw HRR HR hcut
              go_wp2_with fail
              go_region_held3 (fun w' => w'.cell? ⟨b, 0, none⟩ = some (.pointer (some ⟨g, 0, none⟩)) ∧ w'.cell? ⟨b, 1, none⟩ = some (.int .i64 l.file)) (go_keep)
                ((first | (go_at_call 17; refine hread.mono ?_; rintro e w2 ⟨rfl, rfl⟩)))
              have onr := on.drew
              have kr := k.drew
              clear hread
              go_wp2_with fail
              go_region_held3 (fun w' => w'.cell? ⟨b, 0, none⟩ = some (.pointer (some ⟨g, 0, none⟩)) ∧ w'.cell? ⟨b, 1, none⟩ = some (.int .i64 l.file)) (go_keep)
                ((first | (go_at_call 24; refine (cut_calls onr.drew.disk gd'.ok' l.file n).mono ?_; rintro e w4 ⟨rfl, h4, k4⟩; obtain ⟨on4, j4⟩ := onr.drew.onDisk h4 k4; have q0 := on4.c0; have q1 := on4.c1)))
              go_wp2
              go_ret
              exact ⟨by rw [HRR2.out]; rfl, by rw [HRR2.out]; exact on4, kr.drew.trans k4⟩
            | false =>
              have he1 : d'.cutE l.file n = 0 := by simpa using he
              have hR2 : R = ((d'.cut l.file n).changeE l.file, (d'.cut l.file n).sync l.file) := by rw [HRR.out]; unfold tidy2; rw [e1, e2, if_neg (by simpa using he1)]
              have HRR2 := Lib.hid hR2
              have He1 := Lib.hid he1
              clear hR2 he1 e1 e2 hT hw HRR HR hcut
              go_wp2_with fail
              go_region_held3 (fun w' => w'.cell? ⟨b, 0, none⟩ = some (.pointer (some ⟨g, 0, none⟩)) ∧ w'.cell? ⟨b, 1, none⟩ = some (.int .i64 l.file)) (go_keep)
                ((first | (go_at_call 17; refine hread.mono ?_; rintro e w2 ⟨rfl, rfl⟩)))
              have onr := on.drew
              have kr := k.drew
              clear hread
              go_wp2_with fail
              go_region_held3 (fun w' => w'.cell? ⟨b, 0, none⟩ = some (.pointer (some ⟨g, 0, none⟩)) ∧ w'.cell? ⟨b, 1, none⟩ = some (.int .i64 l.file)) (go_keep)
                ((first | (go_at_call 24; refine (cut_calls onr.drew.disk gd'.ok' l.file n).mono ?_; rintro e w4 ⟨rfl, h4, k4⟩; obtain ⟨on4, j4⟩ := onr.drew.onDisk h4 k4; have q0 := on4.c0; have q1 := on4.c1)))
              have kq := kr.drew.trans k4
              go_wp2_with fail
              go_region_held3 (fun w' => w'.cell? ⟨b, 0, none⟩ = some (.pointer (some ⟨g, 0, none⟩)) ∧ w'.cell? ⟨b, 1, none⟩ = some (.int .i64 l.file)) (go_keep)
                ((first | (go_at_call 15; refine (sync_calls on4.drew.disk (gd'.cut l.file n).ok' l.file).mono ?_; rintro e w5 ⟨rfl, h5, k5⟩; obtain ⟨on5, j5⟩ := on4.drew.onDisk h5 k5; have s0 := on5.c0; have s1 := on5.c1)))
              go_wp2
              go_ret
              exact ⟨by rw [HRR2.out]; rfl, by rw [HRR2.out]; exact on5, kq.drew.trans k5⟩
          · have hT : tidyC l d' n = false := by unfold tidyC; rw [hw, decide_eq_false hsz]; rfl
            have e1 : tidyE l d' n = 0 := by unfold tidyE; rw [hT]; exact hw
            have e2 : tidyD l d' n = d' := by unfold tidyD; rw [hT]; rfl
            have hR2 : R = (d'.changeE l.file, d'.sync l.file) := by rw [HRR.out]; unfold tidy2; rw [e1, e2, if_neg (by simp)]
            have HRR2 := Lib.hid hR2
            clear hR2 e1 e2 hT hw HRR HR
            go_wp2_with fail
            go_region_held3 (fun w' => w'.cell? ⟨b, 0, none⟩ = some (.pointer (some ⟨g, 0, none⟩)) ∧ w'.cell? ⟨b, 1, none⟩ = some (.int .i64 l.file)) (go_keep)
              ((first | (go_at_call 17; refine hread.mono ?_; rintro e w2 ⟨rfl, rfl⟩)))
            have onr := on.drew
            have kr := k.drew
            clear hread
            go_wp2_with fail
            go_region_held3 (fun w' => w'.cell? ⟨b, 0, none⟩ = some (.pointer (some ⟨g, 0, none⟩)) ∧ w'.cell? ⟨b, 1, none⟩ = some (.int .i64 l.file)) (go_keep)
              ((first | (go_at_call 15; refine (sync_calls onr.drew.disk gd'.ok' l.file).mono ?_; rintro e w5 ⟨rfl, h5, k5⟩; obtain ⟨on5, j5⟩ := onr.drew.onDisk h5 k5; have s0 := on5.c0; have s1 := on5.c1)))
            go_wp2
            go_ret
            exact ⟨by rw [HRR2.out]; rfl, by rw [HRR2.out]; exact on5, kr.drew.trans k5⟩
        · have hT : tidyC l d' n = false := by unfold tidyC; rw [beq_eq_false_iff_ne.2 hw]; rfl
          have e1 : tidyE l d' n = d'.wrong l.file := by unfold tidyE; rw [hT]; rfl
          have e2 : tidyD l d' n = d' := by unfold tidyD; rw [hT]; rfl
          have hR2 : R = (d'.wrong l.file, d') := by rw [HRR.out]; unfold tidy2; rw [e1, e2, if_pos hw]
          have HRR2 := Lib.hid hR2
          have hb1 : (d'.wrong l.file == 0) = false := beq_eq_false_iff_ne.2 hw
          have hb2 : (d'.wrong l.file != 0) = true := by simpa using hw
          clear hR2 e1 e2 hT hw HRR HR
          go_wp2_with fail
          go_region_held3 (fun w' => w'.cell? ⟨b, 0, none⟩ = some (.pointer (some ⟨g, 0, none⟩)) ∧ w'.cell? ⟨b, 1, none⟩ = some (.int .i64 l.file)) (go_keep)
            ((first | (go_at_call 17; refine hread.mono ?_; rintro e w2 ⟨rfl, rfl⟩)))
          have onr := on.drew
          have kr := k.drew
          clear hread
          go_wp2
          go_ret
          exact ⟨by rw [HRR2.out]; rfl, by rw [HRR2.out]; exact onr, kr⟩

end Go.Proofs.Ytljfagagopaidaa

/- The log's Open, walked. -/
namespace Go.Proofs.Ytljfagagopaidaa
open Go.RowKit Go.Proofs.YtljfagagopaidaaW.PrintWords
set_option linter.unusedSimpArgs false
set_option linter.unusedVariables false

theorem holdsR_end {s : ByteArray} {l : List ByteArray} {n : Int} (h : holdsR s = some (l, n)) : 0 ≤ n ∧ n ≤ s.size := by
  have hz := parse_size s.size s (Nat.le_refl _)
  unfold holdsR at h
  cases hp : (parse s).1 with
  | nil => rw [hp] at h; cases h
  | cons x t =>
    rw [hp] at h
    simp only at h
    split at h
    · injection h with h
      injection h with h1 h2
      omega
    · cases h
theorem newestF_of {d : Dk} : ∀ {fs : List Int} {o : Own}, newestF d fs = some o → o.file ∈ fs ∧ holdsR (d.readS o.file) = some (o.own, o.end_)
  | [], o, h => by cases h
  | f :: fs, o, h => by
    cases hh : holdsR (d.readS f) with
    | none =>
      rw [newestF_none hh] at h
      have := newestF_of h
      exact ⟨List.mem_cons_of_mem _ this.1, this.2⟩
    | some p =>
      obtain ⟨own, n⟩ := p
      rw [newestF_some hh] at h
      injection h with h
      subst h
      exact ⟨List.mem_cons_self, hh⟩
theorem newEnd_range {d : Dk} (gd : Good d) (fs : List Int) : 0 ≤ newEnd (newestF d fs) ∧ newEnd (newestF d fs) ≤ 16777216 := by
  cases h : newestF d fs with
  | none => exact ⟨by decide, by decide⟩
  | some o =>
    have h1 := holdsR_end (newestF_of h).2
    have h2 := readS_size gd.sound o.file
    show 0 ≤ o.end_ ∧ o.end_ ≤ 16777216
    omega

def newestD (d : Dk) : Option Own := newestF d (numbers d.files).reverse
def openT (d : Dk) : Int × Dk := tidyR (newLog (newestD d)) d (newEnd (newestD d))

theorem open_nil (w : World) : Calls Try.prog 41 #[.pointer none] w fun e w' => e = .returned (.tuple #[.pointer none, .slice none 0 0, .int .i64 2]) ∧ w = w' := by
  go_enter Try.func41, Try.ntmps41
  go_wp2
  go_ret3
  exact ⟨rfl, rfl⟩

theorem open_dead {w : World} {g m : Nat} {d : Dk} (h : DiskAt w g m d) (hd : d.dead = true) :
    Calls Try.prog 41 #[.pointer (some ⟨g, 0, none⟩)] w fun e w' => e = .returned (.tuple #[.pointer none, .slice none 0 0, .int .i64 50]) ∧ w = w' := by
  have hdc := dead_calls h
  rw [hd] at hdc
  clear hd
  go_enter Try.func41, Try.ntmps41
  go_wp2_with fail
  refine hdc.mono ?_
  rintro e w1 ⟨rfl, rfl⟩
  go_wp2
  go_ret3
  exact ⟨rfl, rfl⟩

set_option maxRecDepth 100000 in
set_option maxHeartbeats 1000000 in
theorem open_bad {w : World} {g m : Nat} {d : Dk} (h : DiskAt w g m d) (gd : Good d) (hd : d.dead = false) (hT : (openT d).1 ≠ 0) :
    Calls Try.prog 41 #[.pointer (some ⟨g, 0, none⟩)] w fun e w' => e = .returned (.tuple #[.pointer none, .slice none 0 0, .int .i64 (openT d).1]) ∧ DiskAt w' g m (openT d).2 ∧ Fr (Two g m) w w' := by
  have hdc := dead_calls h
  rw [hd] at hdc
  have hnew := newest_calls h gd hd
  have hT' : ((openT d).1 != 0) = true := by simpa using hT
  have hen := newEnd_range gd (numbers d.files).reverse
  obtain ⟨N, hN⟩ : ∃ N, N = newestF d (numbers d.files).reverse := ⟨_, rfl⟩
  rw [← hN] at hnew hen
  have hO : openT d = tidyR (newLog N) d (newEnd N) := by rw [hN]; rfl
  rw [hO] at hT' ⊢
  clear hd hT hN hO
  go_enter Try.func41, Try.ntmps41
  go_wp2_with fail
  refine hdc.mono ?_
  rintro e w1 ⟨rfl, rfl⟩
  go_wp2_with fail
  refine hnew.mono ?_
  rintro e w1 ⟨b, A, c, rfl, on, hc, hC, hb, hA, k1⟩
  clear hnew hdc
  go_wp2_with fail
  refine (tidy_calls on gd (newEnd N) (by omega)).mono ?_
  rintro e w2 ⟨rfl, on2, k2⟩
  go_wp2
  go_ret3
  exact ⟨rfl, on2.disk, k1.none_.trans k2⟩

set_option maxRecDepth 100000 in
set_option maxHeartbeats 1000000 in
theorem open_ok {w : World} {g m : Nat} {d : Dk} (h : DiskAt w g m d) (gd : Good d) (hd : d.dead = false) (hT : (openT d).1 = 0) :
    Calls Try.prog 41 #[.pointer (some ⟨g, 0, none⟩)] w fun e w' => ∃ (b : Nat) (A : Option Addr) (c : Nat), e = .returned (.tuple #[.pointer (some ⟨b, 0, none⟩), .slice A (newOwn (newestD d)).length c, .int .i64 0]) ∧
      On w' g m b (openT d).2 (newLog (newestD d)) ∧ (newOwn (newestD d)).length ≤ c ∧ Kd.string.C w' A (newOwn (newestD d)).length (newOwn (newestD d)) ∧ w.heap.size ≤ b ∧ (∀ a, A = some a → w.heap.size ≤ a.block ∧ a.block ≠ b) ∧ Fr (Two g m) w w' := by
  have hdc := dead_calls h
  rw [hd] at hdc
  have hnew := newest_calls h gd hd
  have hen := newEnd_range gd (numbers d.files).reverse
  obtain ⟨N, hN⟩ : ∃ N, N = newestF d (numbers d.files).reverse := ⟨_, rfl⟩
  rw [← hN] at hnew hen
  have hN2 : newestD d = N := hN.symm
  have hO : openT d = tidyR (newLog N) d (newEnd N) := by rw [hN]; rfl
  rw [hN2, hO]
  rw [hO] at hT
  have hgm := Lib.hid (And.intro (lt_blk h.blk) h.map.lt)
  clear hd hN hN2 hO
  have HT := Lib.hid hT
  go_enter Try.func41, Try.ntmps41
  go_wp2_with fail
  refine hdc.mono ?_
  rintro e w1 ⟨rfl, rfl⟩
  go_wp2_with fail
  refine hnew.mono ?_
  rintro e w1 ⟨b, A, c, rfl, on, hc, hC, hb, hA, k1⟩
  clear hnew hdc
  have htd := tidy_calls on gd (newEnd N) (by omega)
  rw [hT] at htd
  clear hT
  go_wp2_with fail
  refine htd.mono ?_
  rintro e w2 ⟨rfl, on2, k2⟩
  have hC2 := C_fr flat_string hC k2 (fun a ha e => by
    have h1 := (hA a ha).1
    have h2 := hgm.out
    rcases e with e | e <;> omega)
  clear hC htd
  go_wp2
  go_ret3
  exact ⟨b, A, c, rfl, on2, hc, hC2, hb, hA, k1.none_.trans k2⟩

end Go.Proofs.Ytljfagagopaidaa
