/- The library's text builder in this program, and the frames of records, walked. -/
import Derived.Test.YtljfagagopaidaaSp
import Derived.Test.YtljfagagopaidaaLayB
import Derived.Test.YtljfagagopaidaaLh1
import Derived.Test.YtljfagagopaidaaCr
namespace Go.Proofs.Ytljfagagopaidaa
open Go.RowKit Go.Proofs.YtljfagagopaidaaW.PrintWords
set_option linter.unusedSimpArgs false
set_option linter.unusedVariables false

theorem sizeBuilder : (Try.prog.info? 109).map (·.size) = some 2 := by kernel_rfl
theorem liesBuilder : (Try.prog.info? 109).isSome = true := by kernel_rfl
theorem info5 : (Try.prog.info? 5).map (fun i => (i.zero, i.size, i.bytes)) = some (some (.int .u8 0), 1, 1) := by kernel_rfl

set_option maxHeartbeats 1000000 in
set_option maxRecDepth 100000 in
theorem copyCheck_used (b : Nat) (w : World) (h0 : w.cell? ⟨b, 0, none⟩ = some (.pointer (some ⟨b, 0, none⟩))) :
    Calls Try.prog 93 #[.pointer (some ⟨b, 0, none⟩)] w fun e w' => e = .returned (.tuple #[]) ∧ w' = w := by
  obtain ⟨j, hj, _⟩ := Option.map_eq_some_iff.1 sizeBuilder
  go_enter Try.func93, Try.ntmps93
  go_wp2
  rw [Lib.run_neq_ptr_same w _ Try.underlying107 hj]
  go_wp2
  go_end0
  exact ⟨rfl, rfl⟩

set_option maxHeartbeats 1000000 in
set_option maxRecDepth 100000 in
theorem copyCheck_fresh (b : Nat) (w : World) (h0 : w.cell? ⟨b, 0, none⟩ = some (.pointer none)) (hsh : w.shape? b = some (109, 2)) (hfz : w.frozen? ⟨b, 0, none⟩ = false) :
    Calls Try.prog 93 #[.pointer (some ⟨b, 0, none⟩)] w fun e w' => e = .returned (.tuple #[]) ∧ w' = w.setCell ⟨b, 0, none⟩ (.pointer (some ⟨b, 0, none⟩)) := by
  obtain ⟨j, hj, hjs⟩ := Option.map_eq_some_iff.1 sizeBuilder
  go_enter Try.func93, Try.ntmps93
  go_wp2
  rw [Lib.run_to_unsafe w ⟨b, 0, none⟩ Try.underlying107 Try.underlying137 hj (by rw [hjs]; decide) hsh (Nat.zero_lt_succ 1)]
  simp only [Result.andThen]
  rw [Oper.upon_value]
  go_wp2
  rw [run_callFunc_extern Try.func105 (by kernel_rfl) (by kernel_rfl) (by kernel_rfl) (e := Extern.AbiNoEscape.same) (by kernel_rfl)]
  rw [Lib.run_noEscape]
  simp only [Result.andThen]
  rw [Oper.upon_value]
  go_wp2
  rw [Lib.run_from_unsafe w ⟨b, 0, none⟩ Try.underlying137 Try.underlying107 hj hsh (by kernel_rfl)]
  simp only [Result.andThen]
  rw [Oper.upon_value]
  go_wp2
  go_end0
  exact ⟨rfl, rfl⟩

theorem copyCheck (B b : Nat) (bs : List Value) (w : World) (h : Lib.IsBuilder 109 5 B b bs w) :
    Calls Try.prog 93 #[.pointer (some ⟨b, 0, none⟩)] w fun e w' => e = .returned (.tuple #[]) ∧ (Lib.BuilderAt 109 5 B b (.pointer (some ⟨b, 0, none⟩)) bs w' ∧ Below B w w') := by
  rcases h with h | h
  · refine (copyCheck_fresh b w h.cell0 h.shape h.frozen0).mono ?_
    rintro e w' ⟨rfl, rfl⟩
    exact ⟨rfl, h.used _, (Below.refl B w).setCell (p := ⟨b, 0, none⟩) h.1 _⟩
  · refine (copyCheck_used b w h.cell0).mono ?_
    rintro e w' ⟨rfl, rfl⟩
    exact ⟨rfl, h, Below.refl B _⟩

set_option maxHeartbeats 2000000 in
set_option maxRecDepth 100000 in
theorem writeString (B b : Nat) (bs : List Value) (s : ByteArray) (w : World) (h : Lib.IsBuilder 109 5 B b bs w) (hlen : bs.length + s.size ≤ 140737488355328) (hBw : B ≤ w.heap.size) :
    Calls Try.prog 81 #[.pointer (some ⟨b, 0, none⟩), .string s] w fun e w' => e = .returned (.tuple #[.int .i64 s.size, .nilIface]) ∧ (Lib.BuilderAt 109 5 B b (.pointer (some ⟨b, 0, none⟩)) (bs ++ Lib.strCells s) w' ∧ Below B w w') := by
  obtain ⟨i0, hi, hz0, hz1, hz2⟩ := info_parts info5
  go_enter Try.func81, Try.ntmps81
  go_wp2_with (go_at_call 93; refine (copyCheck B b bs _ h).mono ?_)
  rintro e w1 ⟨rfl, h1, hb1⟩
  obtain ⟨hB, v, hbk, hown, hne⟩ := h1
  have c0 : w1.cell? ⟨b, 0, none⟩ = some (.pointer (some ⟨b, 0, none⟩)) := by rw [Lib.cell_of_heap hbk]; rfl
  have c1 : w1.cell? ⟨b, 1, none⟩ = some v := by rw [Lib.cell_of_heap hbk]; rfl
  go_wp2_with (at_builtin; refine Lib.wpList_append_own_string _ rfl _ _ 83 9 rfl B 5 i0 Try.underlying83 Try.underlying9 hi hz0 hz1 hz2 _ _ _ rfl hown s rfl ?c3 ?c4 ?c5 ?_)
  case c3 => unfold maxLen; omega
  case c4 => omega
  case c5 => have := hb1.size; omega
  intro v' w2 hown' hgrow _
  have hlt : b < w1.heap.size := by
    rcases Nat.lt_or_ge b w1.heap.size with h' | h'
    · exact h'
    · simp [Array.getElem?_eq_none h'] at hbk
  have hb2 : w2.heap[b]? = some (.cells #[.pointer (some ⟨b, 0, none⟩), v] 109 (0, 0)) := by
    rw [hgrow.block b hlt (fun e => hne e.symm)]
    exact hbk
  have d0 : w2.cell? ⟨b, 0, none⟩ = some (.pointer (some ⟨b, 0, none⟩)) := by rw [Lib.cell_of_heap hb2]; rfl
  have d1 : w2.cell? ⟨b, 1, none⟩ = some v := by rw [Lib.cell_of_heap hb2]; rfl
  have f1 : w2.frozen? ⟨b, 1, none⟩ = false := Lib.frozen_of_heap hb2 1
  obtain ⟨ao, n', cap, rfl⟩ : ∃ ao n' cap, v' = .slice ao n' cap := by
    rcases hown'.2 with ⟨hv, _⟩ | ⟨g, cap, cur, hv, _⟩
    · exact ⟨_, _, _, hv⟩
    · exact ⟨_, _, _, hv⟩
  go_wp2
  go_ret2
  refine ⟨rfl, ?_, ?_⟩
  · exact Lib.BuilderAt.put (T := 109) (e := 5) hB hb2 (bs' := bs ++ Lib.strCells s) (by simpa [Lib.strCells_length] using hown') (by decide)
  · exact (hb1.grown hgrow (by have := hb1.size; omega) (fun k hk => (hown.lt k hk).1)).setCell (p := ⟨b, 1, none⟩) hB _

/-- A record's frame, and records' frames. -/
def frame (r : ByteArray) : ByteArray := big4 r.size ++ big4 (crc r : Nat) ++ r
def framesL (l : List ByteArray) : List UInt8 := l.flatMap fun r => (frame r).data.toList
def framesOf (l : List ByteArray) : ByteArray := ⟨(framesL l).toArray⟩
theorem frame_size (r : ByteArray) : (frame r).size = 8 + r.size := by
  unfold frame
  rw [ByteArray.size_append, ByteArray.size_append, big4_size, big4_size]
theorem framesL_snoc (l : List ByteArray) (r : ByteArray) : framesL (l ++ [r]) = framesL l ++ (frame r).data.toList := by simp [framesL]
theorem framesL_append (l m : List ByteArray) : framesL (l ++ m) = framesL l ++ framesL m := by simp [framesL]
theorem framesL_prefix (l : List ByteArray) (i : Nat) : (framesL (l.take i)).length ≤ (framesL l).length := by
  conv => rhs; rw [← List.take_append_drop i l, framesL_append, List.length_append]
  omega
theorem take_rd {l : List ByteArray} {i : Nat} (h : i < l.length) : l.take (i + 1) = l.take i ++ [rdOf ByteArray.empty l (i : Int)] := by
  rw [List.take_succ_eq_append_getElem h]
  unfold rdOf
  rw [Int.toNat_natCast, List.getD_eq_getElem?_getD, List.getElem?_eq_getElem h]
  rfl

theorem isB_below {B b : Nat} {bs : List Value} {w w' : World} (h : Lib.IsBuilder 109 5 B b bs w) (k : Below w.heap.size w w') : Lib.IsBuilder 109 5 B b bs w' := by
  have key : ∀ p, Lib.BuilderAt 109 5 B b p bs w → Lib.BuilderAt 109 5 B b p bs w' := by
    rintro p ⟨hB, v, hb, hown, hne⟩
    exact ⟨hB, v, (k.block b (lt_blk hb)).trans hb, own_move hown (fun q hq => k.block q (own_lt hown q hq)), hne⟩
  rcases h with h | h
  · exact .inl (key _ h)
  · exact .inr (key _ h)

set_option maxRecDepth 100000 in
set_option maxHeartbeats 2000000 in
theorem frames_calls (A : Option Addr) (c : Nat) (l : List ByteArray) (w : World) (hC : Kd.string.C w A l.length l) (hz : (framesL l).length ≤ 1099511627776) :
    Calls Try.prog 65 #[.slice A l.length c] w fun e w' => e = .returned (.string (framesOf l)) ∧ Below w.heap.size w w' := by
  have hm0 := hC.2.1
  go_enter Try.func65, Try.ntmps65
  go_wp2_with fail
  have hb0 := Lib.fresh_isBuilder 109 5 w
  have bel0 := (Below.refl w.heap.size w).alloc (Nat.le_refl _) (.cells #[.pointer none, .slice none 0 0] 109)
  obtain ⟨b, hb⟩ : ∃ b, b = w.heap.size := ⟨_, rfl⟩
  have hb1 : Lib.IsBuilder 109 5 w.heap.size b [] (w.alloc (.cells #[.pointer none, .slice none 0 0] 109)) := by rw [hb]; exact hb0
  rw [← hb]
  clear hb0 hb
  go_loopg [5, 8] l.length (fun kq v5 v8 wr => ∃ i : Nat, kq + i = l.length ∧ v8 = .int .i64 i ∧ Lib.IsBuilder 109 5 w.heap.size b (Lib.byteCells (framesL (l.take i))) wr ∧ Below w.heap.size w wr)
  case atStart => exact ⟨0, rfl, rfl, by simpa [framesL, Lib.byteCells] using hb1, bel0⟩
  case round =>
    obtain ⟨i, hi, rfl, hB, bel⟩ := hrel
    by_cases hlt : i < l.length
    · have hltI : (i : Int) < (l.length : Int) := by omega
      have h0I : 0 ≤ (i : Int) := by omega
      obtain ⟨ad, rfl, hcell⟩ := Kd.at_string hC (i : Int) h0I hltI
      rw [Int.toNat_natCast] at hcell
      obtain ⟨r, hr⟩ : ∃ r, r = rdOf ByteArray.empty l (i : Int) := ⟨_, rfl⟩
      have htk := take_rd hlt
      rw [← hr] at hcell htk
      have hcr : wr.cell? (ad.add i) = some (.string r) := (Fr.of_below bel (S := fun _ => False)).cell hcell id
      have hpre := framesL_prefix l (i + 1)
      have hfl : (framesL (l.take (i + 1))).length = (framesL (l.take i)).length + (8 + r.size) := by
        rw [htk, framesL_snoc, List.length_append, ba_length, frame_size]
      have hrz : r.size ≤ 1099511627776 := by omega
      obtain ⟨kc, hkc⟩ := (crc_ev r hrz).rounds
      have s1 : (big4 (r.size : Int)).size + (big4 (crc r : Nat)).size ≤ 9223372036854775807 := by rw [big4_size, big4_size]; omega
      have s2 : (big4 (r.size : Int) ++ big4 (crc r : Nat)).size + r.size ≤ 9223372036854775807 := by rw [ByteArray.size_append, big4_size, big4_size]; omega
      have Htk := Lib.hid htk
      have Hfl := Lib.hid (And.intro hfl hpre)
      clear hcell hr htk hfl hpre
      go_wp2_with fail
      refine (Lf.seglog_big.calls _ _ wr (big_f _)).mono ?_
      rintro e w1 ⟨rfl, b1⟩
      go_wp2_with fail
      refine (Lf.bits_Crc.calls kc r _ w1 hkc).mono ?_
      rintro e w2 ⟨rfl, ⟨nd, rfl⟩⟩
      go_wp2_with fail
      refine (Lf.seglog_big.calls _ _ _ (big_f _)).mono ?_
      rintro e w3 ⟨rfl, b3⟩
      have b3' : Below w1.heap.size w1 w3 := below_step (W := w1.drewN nd) (by apply pw_below_drewN; exact Below.refl _ _) b3
      have hB3 := isB_below (isB_below hB b1) b3'
      have bel1 : Below w.heap.size w w1 := bel.trans (b1.mono bel.size)
      have bel3 : Below w.heap.size w w3 := bel1.trans (b3'.mono bel1.size)
      have hlen : (Lib.byteCells (framesL (l.take i))).length + (big4 (r.size : Int) ++ big4 (crc r : Nat) ++ r).size ≤ 140737488355328 := by
        rw [Lib.byteCells_length]
        have h1 := Hfl.out
        have h2 : (big4 (r.size : Int) ++ big4 (crc r : Nat) ++ r).size = 8 + r.size := frame_size r
        omega
      clear hB b1 b3 b3' bel1
      go_wp2_with fail
      refine (writeString w.heap.size b _ _ w3 hB3 hlen bel3.size).mono ?_
      rintro e w4 ⟨rfl, hB4, b4⟩
      have bel4 := bel3.trans b4
      clear hB3 hlen
      go_wp2
      go_roundg (l.length - (i + 1))
      case measure => omega
      case rel =>
        refine ⟨i + 1, by omega, by go_num, .inr ?_, bel4⟩
        rw [Htk.out, framesL_snoc, Lib.byteCells_append]
        exact hB4
    · have hge : ¬ ((i : Int) < (l.length : Int)) := by omega
      have hil : i = l.length := by omega
      have hB' : Lib.IsBuilder 109 5 w.heap.size b (Lib.byteCells (framesL l)) wr := by
        rw [hil, List.take_length] at hB
        exact hB
      clear hil
      go_wp2_with fail
      refine (Try.Builder_String_any w.heap.size b (framesL l) wr hB' bel.size).mono ?_
      rintro e w1 ⟨rfl, b1⟩
      go_wp2
      go_ret
      exact ⟨rfl, bel.trans b1⟩

end Go.Proofs.Ytljfagagopaidaa
