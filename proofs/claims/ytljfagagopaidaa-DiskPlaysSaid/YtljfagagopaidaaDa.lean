/- The disk's Append, walked. -/
import Derived.Test.YtljfagagopaidaaDs
import Derived.Deep.RegionHeld3
import Derived.Deep.RegionHeld3
namespace Go.Proofs.Ytljfagagopaidaa
open Go.RowKit
set_option linter.unusedSimpArgs false
set_option linter.unusedVariables false

/-- What holds of a disk as long as it is used. -/
structure Dk.Ok (d : Dk) : Prop where
  lim : d.limit ≤ 16777216
  arm0 : 0 ≤ d.armed
  arm1 : d.armed ≤ 9223372036854775807
  size : (bytes d.files : Int) ≤ d.limit ∨ d.files = []
  many : d.files.length ≤ 65536
  keys : ∀ x ∈ d.files, 0 ≤ x.k ∧ x.k < 65536

def Dk.put (d : Dk) (x : Fl) : Dk := { d with files := lay d.files x }
def Dk.appendE (d : Dk) (f : Int) (s : ByteArray) : Int :=
  if d.wrong f ≠ 0 then d.wrong f else if d.limit < bytes d.files + s.size then 51 else d.stepE
def Dk.append (d : Dk) (f : Int) (s : ByteArray) : Dk :=
  if d.wrong f ≠ 0 then d else if d.limit < bytes d.files + s.size then d else (d.put ⟨f, sAt d.files f ++ s, nAt d.files f⟩).step

theorem MapIs.alloc {w : World} {m : Nat} {l : List Fl} (h : MapIs w m l) (o : Obj) : MapIs (w.alloc o) m l := h.of_block (Below.heap_alloc _ _ _ h.lt)
theorem MapIs.drew {w : World} {m : Nat} {l : List Fl} (h : MapIs w m l) : MapIs w.drew m l := h
theorem DiskAt.drew {w : World} {g m : Nat} {d : Dk} (h : DiskAt w g m d) : DiskAt w.drew g m d := h.fr ((Fr.refl (fun _ => False) w).drew) id id

theorem Dk.append_wrong {d : Dk} {f : Int} (s : ByteArray) (h : d.wrong f ≠ 0) : d.appendE f s = d.wrong f ∧ d.append f s = d := by
  unfold Dk.appendE Dk.append
  rw [if_pos h, if_pos h]
  exact ⟨rfl, rfl⟩
theorem Dk.append_full {d : Dk} {f : Int} {s : ByteArray} (h : d.wrong f = 0) (h2 : d.limit < bytes d.files + s.size) : d.appendE f s = 51 ∧ d.append f s = d := by
  have h' : ¬ (d.wrong f ≠ 0) := by simp [h]
  unfold Dk.appendE Dk.append
  rw [if_neg h', if_neg h', if_pos h2, if_pos h2]
  exact ⟨rfl, rfl⟩
theorem Dk.append_goes {d : Dk} {f : Int} {s : ByteArray} (h : d.wrong f = 0) (h3 : (bytes d.files : Int) + s.size ≤ d.limit) : d.appendE f s = d.stepE ∧ d.append f s = (d.put ⟨f, sAt d.files f ++ s, nAt d.files f⟩).step := by
  have h' : ¬ (d.wrong f ≠ 0) := by simp [h]
  have h2 : ¬ d.limit < bytes d.files + s.size := by omega
  unfold Dk.appendE Dk.append
  rw [if_neg h', if_neg h', if_neg h2, if_neg h2]
  exact ⟨rfl, rfl⟩

theorem look_mem {l : List Fl} {k : Int} {x : Fl} (h : look l k = some x) : x ∈ l ∧ x.k = k :=
  ⟨List.mem_of_find?_eq_some h, by simpa using List.find?_some h⟩
theorem size_le_bytes {l : List Fl} {x : Fl} (h : x ∈ l) : x.s.size ≤ bytes l := by
  induction l with
  | nil => cases h
  | cons y l ih =>
    simp only [bytes, List.map_cons, List.sum_cons]
    rcases List.mem_cons.1 h with rfl | h
    · omega
    · have := ih h
      simp only [bytes] at this
      omega
theorem sAt_le (l : List Fl) (k : Int) : (sAt l k).size ≤ bytes l := by
  unfold sAt
  cases h : look l k with
  | none => exact Nat.zero_le _
  | some x => exact size_le_bytes (look_mem h).1

theorem DiskAt.put_turned {w w2 : World} {g m : Nat} {d : Dk} {x : Fl} {o : Obj} (h : DiskAt w g m d) (ht : Turned (w.alloc o).drew w2 m) (hm : MapIs w2 m (lay d.files x)) : DiskAt w2 g m (d.put x) :=
  ⟨(ht.block g h.ne.symm).trans (alloc_old h.blk o), hm⟩
theorem Fr.put_turned {w w1 w2 : World} {g m : Nat} {o : Obj} (k : Fr (fun _ => False) w w1) (ht : Turned (w1.alloc o).drew w2 m) : Fr (Two g m) w w2 :=
  ((k.none_).alloc o).drew.then_ ht.fr (fun _ _ e => .inr e)

set_option maxRecDepth 100000 in
set_option maxHeartbeats 400000 in
theorem append_calls {w : World} {g m : Nat} {d : Dk} (h : DiskAt w g m d) (ok : d.Ok) (f : Int) (s : ByteArray) (hs : s.size ≤ 140737488355328) :
    Calls Try.prog 14 #[.pointer (some ⟨g, 0, none⟩), .int .i64 f, .string s] w fun e w' => e = .returned (.int .i64 (d.appendE f s)) ∧ DiskAt w' g m (d.append f s) ∧ Fr (Two g m) w w' := by
  have c0 : w.cell? ⟨g, 0, none⟩ = some (.map (some m)) := (cell_blk h.blk 0).trans rfl
  have c1 : w.cell? ⟨g, 1, none⟩ = some (.int .i64 d.limit) := (cell_blk h.blk 1).trans rfl
  by_cases hw : d.wrong f = 0
  · have hb : (d.wrong f != 0) = false := by simpa using hw
    have hsz := ok.size
    have hbs : bytes d.files ≤ 16777216 := by
      rcases hsz with hsz | hsz
      · have := ok.lim; omega
      · rw [hsz]; simp [bytes]
    have hwr : IntKind.i64.wrap ((bytes d.files : Int) + (s.size : Int)) = (bytes d.files : Int) + (s.size : Int) := IntWalk.i64_in _ (by omega)
    have hlen : (sAt d.files f).size ≤ 16777216 := Nat.le_trans (sAt_le _ _) hbs
    have hbi : (bytes d.files : Int) ≤ 16777216 := by omega
    have hlm := ok.lim
    have hmany : d.files.length < 1048576 := by have := ok.many; omega
    have Hw := Lib.hid hw; clear hw
    have Hm := Lib.hid hmany; clear hmany
    go_enter Try.func14, Try.ntmps14
    go_wp2_with (first | (go_at_call 51; refine (wrong_calls h f).mono ?_; rintro e w' ⟨rfl, rfl⟩))
    go_region_held3 (fun w' => w'.cell? ⟨g, 1, none⟩ = some (.int .i64 d.limit)) (first | go_keep | (exact (cell_blk (DiskAt.blk ‹_›) 1).trans rfl))
      (first | (go_at_call 34; refine (size_calls (d := d) (m := m) ?_ ?_).mono ?_; (exact h.drew); (omega); rintro e w1 ⟨rfl, h1, k1⟩))
    have c01 : w1.cell? ⟨g, 0, none⟩ = some (.map (some m)) := (cell_blk h1.blk 0).trans rfl
    clear hwr
    by_cases hlim : d.limit < (bytes d.files : Int) + (s.size : Int)
    · have Hl := Lib.hid hlim
      go_wp2
      go_ret
      exact ⟨by rw [(Dk.append_full Hw.out Hl.out).1]; rfl, by rw [(Dk.append_full Hw.out Hl.out).2]; exact h1, (Fr.refl _ w).drew.trans k1.none_⟩
    · have Hl := Lib.hid hlim
      have hs2 : (s.size : Int) ≤ 16777216 := by omega
      go_wp2_with (first | (at_lookup; refine wp_lookup rfl _ _ f rfl h1.map rfl rfl ?_) | go_in)
      have cq : ∀ o, (w1.alloc o).cell? ⟨g, 0, none⟩ = some (.map (some m)) := fun o => (cell_blk (alloc_old h1.blk o) 0).trans rfl
      refine wp_tail 6 (by kernel_rfl) (by kernel_rfl) ?_
      simp only [List.take_succ_cons, List.take_zero, List.drop_succ_cons, List.drop_zero]
      repeat still_step
      refine wpStill_nil ?_
      refine wp_update rfl _ _ _ ⟨f, sAt d.files f ++ s, nAt d.files f⟩ rfl ((h1.map.alloc _).drew) Hm.out (by rfl) (by rfl) (by rfl) ?_
      intro w2 hm2 ht2
      have h2 := h1.put_turned ht2 hm2
      have k2 : Fr (Two g m) w w2 := ((Fr.refl _ w).drew.trans k1).put_turned ht2
      go_wp2_with fail
      refine (step_calls h2 ok.arm0 ok.arm1).mono ?_
      rintro e w3 ⟨rfl, h3, k3⟩
      go_wp2
      go_ret
      exact ⟨by rw [(Dk.append_goes Hw.out Hl.out).1]; rfl, by rw [(Dk.append_goes Hw.out Hl.out).2]; exact h3, k2.trans k3⟩
  · have hb : (d.wrong f != 0) = true := by simpa using hw
    go_enter Try.func14, Try.ntmps14
    go_wp2_with (first | (go_at_call 51; refine (wrong_calls h f).mono ?_; rintro e w' ⟨rfl, rfl⟩))
    go_ret
    exact ⟨by rw [(Dk.append_wrong s hw).1]; rfl, by rw [(Dk.append_wrong s hw).2]; exact h, Fr.refl _ _⟩
end Go.Proofs.Ytljfagagopaidaa
