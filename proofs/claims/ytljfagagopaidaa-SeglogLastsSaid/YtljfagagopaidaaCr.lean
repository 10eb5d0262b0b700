/- The disk's Crash, walked. -/
import Derived.Test.YtljfagagopaidaaFi
namespace Go.Proofs.Ytljfagagopaidaa
open Go.RowKit Go.Proofs.YtljfagagopaidaaW.PrintWords
set_option linter.unusedSimpArgs false
set_option linter.unusedVariables false

def keepOf (k : Int) : Int := if k < 0 then -1 - k else k
/-- What a crash leaves, file by file. -/
def crashL : List Int → List Int → List Fl → List Fl
  | [], _, l => l
  | f :: fs, ks, l =>
    if ((sAt l f).size : Int) - nAt l f = 0 then crashL fs ks l
    else crashL fs ks.tail (lay l ⟨f, cutS (sAt l f) (nAt l f + (keepOf (ks.headD 0)).tmod (((sAt l f).size : Int) - nAt l f + 1)), nAt l f + (keepOf (ks.headD 0)).tmod (((sAt l f).size : Int) - nAt l f + 1)⟩)
theorem crashL_skip {f : Int} {fs ks : List Int} {l : List Fl} (h : ((sAt l f).size : Int) - nAt l f = 0) : crashL (f :: fs) ks l = crashL fs ks l := by
  conv => lhs; unfold crashL
  rw [if_pos h]
theorem crashL_cut {f : Int} {fs ks : List Int} {l : List Fl} (h : ((sAt l f).size : Int) - nAt l f ≠ 0) (q : Int) (hq : q = nAt l f + (keepOf (ks.headD 0)).tmod (((sAt l f).size : Int) - nAt l f + 1)) :
    crashL (f :: fs) ks l = crashL fs ks.tail (lay l ⟨f, cutS (sAt l f) q, q⟩) := by
  subst hq
  conv => lhs; unfold crashL
  rw [if_neg h]
def Dk.crash (d : Dk) (ks : List Int) : Dk := { d with files := crashL (numbers d.files) ks d.files, dead := false, armed := 0 }

/-- The files are as the disk keeps them: what is synced is there. -/
def Sound (l : List Fl) : Prop := ∀ x ∈ l, 0 ≤ x.n ∧ x.n ≤ x.s.size ∧ x.s.size ≤ 16777216

theorem sound_at {l : List Fl} (h : Sound l) (f : Int) : 0 ≤ nAt l f ∧ nAt l f ≤ (sAt l f).size ∧ (sAt l f).size ≤ 16777216 := by
  unfold nAt sAt
  cases hl : look l f with
  | none => exact ⟨by simp, by simp, Nat.zero_le _⟩
  | some x => exact h x (look_mem hl).1


theorem length_lay {l : List Fl} {x : Fl} (h : l.any (fun y => y.k == x.k) = true) : (lay l x).length = l.length := by
  unfold lay
  rw [if_pos h]
  simp

theorem any_of_diff {l : List Fl} {f : Int} (h : ((sAt l f).size : Int) - nAt l f ≠ 0) : l.any (fun y => y.k == f) = true := by
  unfold sAt nAt at h
  cases hl : look l f with
  | none => rw [hl] at h; exact absurd rfl h
  | some x => rw [List.any_eq_true]; exact ⟨x, (look_mem hl).1, by simp [(look_mem hl).2]⟩

theorem mem_lay {l : List Fl} {x y : Fl} (h : y ∈ lay l x) : y ∈ l ∨ y = x := by
  unfold lay at h
  split at h
  · obtain ⟨z, hz, rfl⟩ := List.mem_map.1 h
    split
    · exact .inr rfl
    · exact .inl hz
  · rcases List.mem_append.1 h with h | h
    · exact .inl h
    · exact .inr (by simpa using h)

theorem size_cutS {s : ByteArray} {n : Int} (h0 : 0 ≤ n) (h1 : n ≤ s.size) : ((cutS s n).size : Int) = n := by
  unfold cutS
  rw [ByteArray.size_extract]
  omega

theorem sound_lay {l : List Fl} (h : Sound l) {f : Int} {s : ByteArray} {n : Int} (h0 : 0 ≤ n) (h1 : n ≤ s.size) (h2 : s.size ≤ 16777216) : Sound (lay l ⟨f, cutS s n, n⟩) := by
  intro y hy
  rcases mem_lay hy with hy | rfl
  · exact h y hy
  · have := size_cutS h0 h1
    refine ⟨h0, ?_, ?_⟩
    · show n ≤ ((cutS s n).size : Int)
      omega
    · show (cutS s n).size ≤ 16777216
      omega

theorem info3 : (Try.prog.info? 3).map (fun i => (i.zero, i.size, i.bytes)) = some (some (.int .i64 0), 1, 8) := by kernel_rfl

/-- What holds of the loop's memory and lists. -/
theorem C_fr0 {α : Type} {d : Kd α} (hflat : ∀ w w' x cs, d.K w x cs → d.K w' x cs) {S : Nat → Prop} {w w' : World} {A : Option Addr} {n : Nat} {xs : List α} (h : d.C w A n xs) (k : Fr S w w') (hA : xs ≠ [] → ∀ a, A = some a → ¬ S a.block) : d.C w' A n xs := by
  cases xs with
  | nil =>
    obtain rfl : n = 0 := h.1.symm
    exact ⟨rfl, by omega, fun h => absurd h (by omega)⟩
  | cons x xs => exact C_fr hflat h k (hA (by simp))

structure CrashInv (w w1 wr : World) (g m : Nat) (d : Dk) (AF : Option Addr) (i : Nat) (A : Option Addr) (c : Nat) (ks : List Int) (l : List Fl) : Prop where
  disk : DiskAt wr g m { d with files := l }
  fr : Fr (Two g m) w wr
  keeps : (Kd.int .i64).C wr A ks.length ks
  cap : ks.length ≤ c
  far : ks ≠ [] → ∀ a, A = some a → a.block ≠ g ∧ a.block ≠ m
  nums : (Kd.int .i64).C wr AF (numbers d.files).length (numbers d.files)
  sound : Sound l
  many : l.length ≤ 65536
  bounds : ∀ k ∈ ks, -9223372036854775808 ≤ k ∧ k ≤ 9223372036854775807

theorem MapIs.of_fr {w w' : World} {m : Nat} {l : List Fl} (h : MapIs w m l) (k : Fr (fun _ => False) w w') : MapIs w' m l := h.of_block (k.block _ h.lt id)
theorem MapIs.drewN {w : World} {m : Nat} {l : List Fl} (h : MapIs w m l) (n : Nat) : MapIs (w.drewN n) m l := h

theorem CrashInv.put {w w1 wr w2 W : World} {g m : Nat} {d : Dk} {AF : Option Addr} {i : Nat} {A : Option Addr} {c : Nat} {ks : List Int} {l : List Fl} {f q : Int} {A2 : Option Addr} {c2 : Nat} {ks2 : List Int}
    (inv : CrashInv w w1 wr g m d AF i A c ks l) (hm2 : MapIs w2 m (lay l ⟨f, cutS (sAt l f) q, q⟩)) (kW : Fr (fun _ => False) wr W) (ht2 : Turned W w2 m) (h0 : 0 ≤ q) (h1 : q ≤ (sAt l f).size) (h2 : ((sAt l f).size : Int) ≤ 16777216)
    (hz : ((sAt l f).size : Int) - nAt l f ≠ 0) (hAF : ∀ a, AF = some a → a.block ≠ g ∧ a.block ≠ m) (hk : (Kd.int .i64).C wr A2 ks2.length ks2) (hc : ks2.length ≤ c2) (hfar : ks2 ≠ [] → ∀ a, A2 = some a → a.block ≠ g ∧ a.block ≠ m) (hb : ∀ k ∈ ks2, -9223372036854775808 ≤ k ∧ k ≤ 9223372036854775807) :
    CrashInv w w1 w2 g m d AF (i + 1) A2 c2 ks2 (lay l ⟨f, cutS (sAt l f) q, q⟩) := by
  have k2 : Fr (· = m) wr w2 := kW.none_.then_ ht2.fr (fun _ _ e => e)
  refine ⟨⟨?_, hm2⟩, inv.fr.then_ k2 (fun _ _ e => .inr e), C_fr0 (flat_int _) hk k2 (fun hne a ha => (hfar hne a ha).2), hc, hfar, C_fr (flat_int _) inv.nums k2 (fun a ha => (hAF a ha).2), sound_lay inv.sound h0 h1 (by omega), ?_, hb⟩
  · exact k2.keep inv.disk.blk inv.disk.ne.symm
  · rw [length_lay (any_of_diff hz)]
    exact inv.many

set_option maxRecDepth 100000 in
set_option maxHeartbeats 1600000 in
theorem crash_calls0 {w : World} {g m : Nat} {d : Dk} (h : DiskAt w g m d) (ok : d.Ok) (hs : Sound d.files) (A : Option Addr) (c : Nat) (ks : List Int) (hc : ks.length ≤ c) (hk : (Kd.int .i64).C w A ks.length ks) (hA : ks ≠ [] → ∀ a, A = some a → a.block ≠ g ∧ a.block ≠ m) (hkb : ∀ k ∈ ks, -9223372036854775808 ≤ k ∧ k ≤ 9223372036854775807) :
    Calls Try.prog 16 #[.pointer (some ⟨g, 0, none⟩), .slice A ks.length c] w fun e w' => e = .returned (.tuple #[]) ∧ DiskAt w' g m (d.crash ks) ∧ Fr (Two g m) w w' := by
  go_enter Try.func16, Try.ntmps16
  go_wp2_with fail
  refine (files_calls h ok).mono ?_
  rintro e w1 ⟨AF, cF, rfl, hcF, hF, hAF, k1⟩
  have hlt := lt_blk h.blk
  have hlm := h.map.lt
  have hFg : ∀ a, AF = some a → a.block ≠ g ∧ a.block ≠ m := fun a ha => ⟨fun e => by have := hAF a ha; omega, fun e => by have := hAF a ha; omega⟩
  have inv0 : CrashInv w w1 w1 g m d AF 0 A c ks d.files := ⟨h.fr k1 id id, k1.none_, C_fr (flat_int _) hk k1 (fun _ _ => id), hc, hA, hF, hs, ok.many, hkb⟩
  go_wp2_with fail
  go_loopg [1, 14] (numbers d.files).length (fun kq v1 v14 wr => ∃ (i : Nat) (A' : Option Addr) (c' : Nat) (ks' : List Int) (l : List Fl), kq + i = (numbers d.files).length ∧ v1 = .slice A' ks'.length c' ∧ v14 = .int .i64 i ∧ CrashInv w w1 wr g m d AF i A' c' ks' l ∧ Hid (crashL ((numbers d.files).drop i) ks' l = crashL (numbers d.files) ks d.files))
  case atStart => exact ⟨0, A, c, ks, d.files, rfl, rfl, rfl, inv0, rfl⟩
  case round =>
    obtain ⟨i, A', c', ks', l, hi, rfl, rfl, inv, hfin⟩ := hrel
    have b0 := inv.disk.blk
    have c0 : wr.cell? ⟨g, 0, none⟩ = some (.map (some m)) := (cell_blk b0 0).trans rfl
    have f2 := free_blk b0 2
    have f3 := free_blk b0 3
    have c2 : wr.cell? ⟨g, 2, none⟩ = some (.int .i64 d.armed) := (cell_blk b0 2).trans rfl
    have c3 : wr.cell? ⟨g, 3, none⟩ = some (.bool d.dead) := (cell_blk b0 3).trans rfl
    have cq : ∀ o, (wr.alloc o).cell? ⟨g, 0, none⟩ = some (.map (some m)) := fun o => (cell_blk (alloc_old b0 o) 0).trans rfl
    by_cases hlt : i < (numbers d.files).length
    · obtain ⟨f, hf⟩ : ∃ f, (numbers d.files)[i]? = some f := ⟨_, List.getElem?_eq_getElem hlt⟩
      have hdrop : (numbers d.files).drop i = f :: (numbers d.files).drop (i + 1) := by
        rw [List.drop_eq_getElem_cons hlt]
        rw [List.getElem?_eq_getElem hlt] at hf
        injection hf with hf
        rw [hf]
      obtain ⟨ad, hAF', hcell⟩ := Kd.at_int inv.nums (i : Int) (by omega) (by omega)
      have hrd : rd (numbers d.files) (i : Int) = f := by
        unfold rd
        rw [Int.toNat_natCast, List.getD_eq_getElem?_getD, hf]
        rfl
      rw [hrd, Int.toNat_natCast] at hcell
      clear hrd
      subst hAF'
      have hsnd := sound_at inv.sound f
      rw [hdrop] at hfin
      have Hd := Lib.hid hdrop; clear hdrop
      have Hf := Lib.hid hf; clear hf
      have hltI : (i : Int) < ((numbers d.files).length : Int) := by omega
      have hmax := inv.nums.2.1
      by_cases hz : ((sAt l f).size : Int) - nAt l f = 0
      · have hz1 : (((sAt l f).size : Int) - nAt l f == 0) = true := by rw [hz]; rfl
        have Hz := Lib.hid hz; clear hz
        go_wp2_with (first | (at_lookup; refine wp_lookup rfl _ _ f rfl inv.disk.map rfl rfl ?_) | go_in)
        go_roundg ((numbers d.files).length - (i + 1))
        case measure => omega
        case rel =>
          refine ⟨i + 1, A', c', ks', l, by omega, rfl, by go_num, ?_, ?_⟩
          · exact ⟨inv.disk.alloc _, inv.fr.alloc _, C_fr (flat_int _) inv.keeps ((Fr.refl (fun _ => False) _).alloc _) (fun _ _ => id), inv.cap, inv.far, C_fr (flat_int _) inv.nums ((Fr.refl (fun _ => False) _).alloc _) (fun _ _ => id), inv.sound, inv.many, inv.bounds⟩
          · exact (crashL_skip Hz.out).symm.trans hfin.out
      · have hz1 : (((sAt l f).size : Int) - nAt l f == 0) = false := by rw [beq_eq_false_iff_ne]; exact hz
        have Hz := Lib.hid hz
        have Hm := Lib.hid (show l.length < 1048576 by have := inv.many; omega)
        have hN0 := hsnd.1
        have hN1 := hsnd.2.1
        have hN2 : ((sAt l f).size : Int) ≤ 16777216 := by have := hsnd.2.2; omega
        clear hsnd
        cases ks' with
        | nil =>
          obtain ⟨q, hq⟩ : ∃ q, q = nAt l f := ⟨_, rfl⟩
          have hfin2 := (crashL_cut Hz.out q (by rw [hq]; simp [keepOf])).symm.trans hfin.out
          have Hfin := Lib.hid hfin2; clear hfin2 hfin
          have Hq := Lib.hid hq; clear hq
          have hwr : IntKind.i64.wrap (((sAt l f).size : Int) - nAt l f + 1) = ((sAt l f).size : Int) - nAt l f + 1 := IntWalk.i64_in _ (by omega)
          have hne : ¬ (((sAt l f).size : Int) - nAt l f + 1 = 0) := by omega
          have hwn : IntKind.i64.wrap (nAt l f) = nAt l f := IntWalk.i64_in _ (by omega)
          go_wp2_with (first | (at_lookup; refine wp_lookup rfl _ _ f rfl inv.disk.map rfl rfl ?_) | go_in)
          -- behind the keep: the two regions whose order is open
          refine wp_tail 8 (by kernel_rfl) (by kernel_rfl) ?_
          simp only [List.take_succ_cons, List.take_zero, List.drop_succ_cons, List.drop_zero]
          repeat still_step
          refine wpStill_nil ?_
          go_wp2_with fail
          have hq0 : (0 : Int) ≤ nAt l f := hN0
          refine wp_tail 13 (by kernel_rfl) (by kernel_rfl) ?_
          simp only [List.take_succ_cons, List.take_zero, List.drop_succ_cons, List.drop_zero]
          repeat still_step
          refine wpStill_nil ?_
          refine wp_update rfl _ _ _ ⟨f, cutS (sAt l f) (nAt l f), nAt l f⟩ rfl (by exact inv.disk.map.of_fr (by repeat (first | exact Fr.refl _ _ | apply Fr.drew | apply Fr.drewN | apply Fr.alloc | refine Fr.setCell ?_ (fun hlt_ => absurd hlt_ (Nat.lt_irrefl _)) _))) Hm.out (by rfl) (by rfl) (by rfl) ?_
          intro w2 hm2 ht2
          have inv2 := inv.put (A2 := A') (c2 := c') (ks2 := []) hm2 (by repeat (first | exact Fr.refl _ _ | apply Fr.drew | apply Fr.drewN | apply Fr.alloc | refine Fr.setCell ?_ (fun hlt_ => absurd hlt_ (Nat.lt_irrefl _)) _)) ht2 hN0 hN1 (by omega) hz hFg inv.keeps inv.cap inv.far inv.bounds
          go_wp2
          go_roundg ((numbers d.files).length - (i + 1))
          case measure => omega
          case rel =>
            refine ⟨i + 1, A', c', [], _, by omega, rfl, by go_num, inv2, ?_⟩
            have := Hfin.out
            rw [Hq.out] at this
            exact this

        | cons k0 ks2 =>
          have hkb0 := inv.bounds k0 (by simp)
          have hkp0 : 0 ≤ keepOf k0 := by unfold keepOf; split <;> omega
          have hkp1 : keepOf k0 ≤ 9223372036854775807 := by unfold keepOf; split <;> omega
          obtain ⟨D, hD⟩ : ∃ D, D = ((sAt l f).size : Int) - nAt l f + 1 := ⟨_, rfl⟩
          have hD0 : 0 < D := by omega
          have ht0 : 0 ≤ (keepOf k0).tmod D := Int.tmod_nonneg _ hkp0
          have ht1 : (keepOf k0).tmod D < D := Int.tmod_lt_of_pos _ hD0
          obtain ⟨q, hq⟩ : ∃ q, q = nAt l f + (keepOf k0).tmod D := ⟨_, rfl⟩
          have hq0 : 0 ≤ q := by omega
          have hq1 : q ≤ (sAt l f).size := by omega
          have hfin2 := (crashL_cut Hz.out q (by rw [hq, hD]; rfl)).symm.trans hfin.out
          have Hfin := Lib.hid hfin2; clear hfin2 hfin
          have hwr : IntKind.i64.wrap (((sAt l f).size : Int) - nAt l f + 1) = D := (IntWalk.i64_in _ (by omega)).trans hD.symm
          have hne : ¬ (D = 0) := by omega
          obtain ⟨ak, hAk, hc0⟩ := Kd.at_int inv.keeps (0 : Int) (by omega) (by simp)
          subst hAk
          have hck : ∀ o, (wr.alloc o).cell? ak = some (.int .i64 k0) := fun o => by
            have := ((Fr.refl (fun _ => False) wr).alloc o).cell hc0 id
            simpa [rd, Addr.add] using this
          obtain ⟨A2, hA2⟩ : ∃ A2, A2 = (if c' = 1 then some ak else (some ak).map (·.add (1 * 1))) := ⟨_, rfl⟩
          obtain ⟨c2, hc2⟩ : ∃ c2, c2 = c' - 1 := ⟨_, rfl⟩
          have hcut : ∀ W : World, (Instr.slice 41 (.slice (some ak) (ks2.length + 1) c') (some (.int .i64 1)) none none).run Try.prog W = .ok (.slice A2 ks2.length c2) W := by
            obtain ⟨i0, hi, _, hsz, _⟩ := info_parts info3
            intro W
            have := cut_from (P := Try.prog) 41 3 .i64 Try.underlying41 hi 1 hsz (some ak) (ks2.length + 1) c' 1 (by omega) (by omega) W
            rw [hA2, hc2]
            exact this
          have hC2 := Kd.C_drop (m := 1) inv.keeps (by simp) inv.cap
          have hC2' : (Kd.int .i64).C wr A2 ks2.length ks2 := by rw [hA2]; exact hC2
          have hcap2 : ks2.length ≤ c2 := by have := inv.cap; simp at this; omega
          have hfar2 : ks2 ≠ [] → ∀ a, A2 = some a → a.block ≠ g ∧ a.block ≠ m := by
            intro _ a ha
            have := inv.far (by simp) ak rfl
            rw [hA2] at ha
            split at ha
            · injection ha with ha; rw [← ha]; exact this
            · simp only [Option.map_some, Option.some.injEq] at ha
              rw [← ha, block_add]; exact this
          have hb2 : ∀ k ∈ ks2, -9223372036854775808 ≤ k ∧ k ≤ 9223372036854775807 := fun k hk => inv.bounds k (by simp [hk])
          have HA2 := Lib.hid hA2; clear hA2
          have Hc2 := Lib.hid hc2; clear hc2
          have HD := Lib.hid hD; clear hD
          have hbb := inv.bounds
          clear hc0 hC2 hbb
          rcases Int.lt_or_le k0 0 with hkn | hkn
          · have hko : keepOf k0 = -1 - k0 := by unfold keepOf; rw [if_pos hkn]
            rw [hko] at hq ht0 ht1 hkp0 hkp1
            have hwq : IntKind.i64.wrap (nAt l f + (-1 - k0).tmod D) = q := (IntWalk.i64_in _ (by omega)).trans hq.symm
            have hwt : IntKind.i64.wrap ((-1 - k0).tmod D) = (-1 - k0).tmod D := IntWalk.i64_in _ (by omega)
            have Hq := Lib.hid hq; clear hq hko
            go_wp2_with (first | (at_lookup; refine wp_lookup rfl _ _ f rfl inv.disk.map rfl rfl ?_) | go_in)
            go_quiet (fail)
            go_wp2_with fail
            refine wp_tail 8 (by kernel_rfl) (by kernel_rfl) ?_
            simp only [List.take_succ_cons, List.take_zero, List.drop_succ_cons, List.drop_zero]
            repeat still_step
            refine wpStill_nil ?_
            go_wp2_with fail
            refine wp_tail 13 (by kernel_rfl) (by kernel_rfl) ?_
            simp only [List.take_succ_cons, List.take_zero, List.drop_succ_cons, List.drop_zero]
            repeat still_step
            refine wpStill_nil ?_
            refine wp_update rfl _ _ _ ⟨f, cutS (sAt l f) q, q⟩ rfl (by exact inv.disk.map.of_fr (by repeat (first | exact Fr.refl _ _ | apply Fr.drew | apply Fr.drewN | apply Fr.alloc | refine Fr.setCell ?_ (fun hlt_ => absurd hlt_ (Nat.lt_irrefl _)) _))) Hm.out (by rfl) (by rfl) (by rfl) ?_
            intro w2 hm2 ht2
            have inv2 := inv.put (A2 := A2) (c2 := c2) (ks2 := ks2) hm2 (by repeat (first | exact Fr.refl _ _ | apply Fr.drew | apply Fr.drewN | apply Fr.alloc | refine Fr.setCell ?_ (fun hlt_ => absurd hlt_ (Nat.lt_irrefl _)) _)) ht2 hq0 hq1 (by omega) hz hFg hC2' hcap2 hfar2 hb2
            go_wp2
            go_roundg ((numbers d.files).length - (i + 1))
            case measure => omega
            case rel => exact ⟨i + 1, A2, c2, ks2, _, by omega, rfl, by go_num, inv2, Hfin.out⟩
          · have hko : keepOf k0 = k0 := by unfold keepOf; rw [if_neg (by omega)]
            rw [hko] at hq ht0 ht1 hkp0 hkp1
            have hwq : IntKind.i64.wrap (nAt l f + k0.tmod D) = q := (IntWalk.i64_in _ (by omega)).trans hq.symm
            have hwt : IntKind.i64.wrap (k0.tmod D) = k0.tmod D := IntWalk.i64_in _ (by omega)
            have Hq := Lib.hid hq; clear hq hko
            go_wp2_with (first | (at_lookup; refine wp_lookup rfl _ _ f rfl inv.disk.map rfl rfl ?_) | go_in)
            go_quiet (fail)
            go_wp2_with fail
            refine wp_tail 8 (by kernel_rfl) (by kernel_rfl) ?_
            simp only [List.take_succ_cons, List.take_zero, List.drop_succ_cons, List.drop_zero]
            repeat still_step
            refine wpStill_nil ?_
            go_wp2_with fail
            refine wp_tail 13 (by kernel_rfl) (by kernel_rfl) ?_
            simp only [List.take_succ_cons, List.take_zero, List.drop_succ_cons, List.drop_zero]
            repeat still_step
            refine wpStill_nil ?_
            refine wp_update rfl _ _ _ ⟨f, cutS (sAt l f) q, q⟩ rfl (by exact inv.disk.map.of_fr (by repeat (first | exact Fr.refl _ _ | apply Fr.drew | apply Fr.drewN | apply Fr.alloc | refine Fr.setCell ?_ (fun hlt_ => absurd hlt_ (Nat.lt_irrefl _)) _))) Hm.out (by rfl) (by rfl) (by rfl) ?_
            intro w2 hm2 ht2
            have inv2 := inv.put (A2 := A2) (c2 := c2) (ks2 := ks2) hm2 (by repeat (first | exact Fr.refl _ _ | apply Fr.drew | apply Fr.drewN | apply Fr.alloc | refine Fr.setCell ?_ (fun hlt_ => absurd hlt_ (Nat.lt_irrefl _)) _)) ht2 hq0 hq1 (by omega) hz hFg hC2' hcap2 hfar2 hb2
            go_wp2
            go_roundg ((numbers d.files).length - (i + 1))
            case measure => omega
            case rel => exact ⟨i + 1, A2, c2, ks2, _, by omega, rfl, by go_num, inv2, Hfin.out⟩
    · have hil : i = (numbers d.files).length := by omega
      have Hi := Lib.hid hil; clear hil
      have hge : ¬ ((i : Int) < ((numbers d.files).length : Int)) := by omega
      go_wp2
      go_end0
      refine ⟨rfl, ?_, ?_⟩
      · have hl : l = crashL (numbers d.files) ks d.files := by
          have := hfin.out
          rw [Hi.out, List.drop_length] at this
          exact this
        unfold Dk.crash
        rw [← hl]
        exact ⟨by simpa using set_blk (set_blk b0 3 (.bool false)) 2 (.int .i64 0), (inv.disk.map.setCell inv.disk.ne _).setCell inv.disk.ne _⟩
      · exact (inv.fr.setCell (fun _ => .inl rfl) _).setCell (fun _ => .inl rfl) _
theorem crash_calls {w : World} {g m : Nat} {d : Dk} (h : DiskAt w g m d) (ok : d.Ok) (hs : Sound d.files) (A : Option Addr) (c : Nat) (ks : List Int) (hc : ks.length ≤ c) (hk : (Kd.int .i64).C w A ks.length ks) (hA : ∀ a, A = some a → a.block ≠ g ∧ a.block ≠ m) (hkb : ∀ k ∈ ks, -9223372036854775808 ≤ k ∧ k ≤ 9223372036854775807) :
    Calls Try.prog 16 #[.pointer (some ⟨g, 0, none⟩), .slice A ks.length c] w fun e w' => e = .returned (.tuple #[]) ∧ DiskAt w' g m (d.crash ks) ∧ Fr (Two g m) w w' :=
  crash_calls0 h ok hs A c ks hc hk (fun _ => hA) hkb

end Go.Proofs.Ytljfagagopaidaa
