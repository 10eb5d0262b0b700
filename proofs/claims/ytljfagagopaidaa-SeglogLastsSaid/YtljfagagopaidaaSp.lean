/- The log's bytes, with no memory in sight: numbers, sums, frames, and what bytes say; the printed functions come to these. -/
import Derived.Test.YtljfagagopaidaaLf2
import Derived.Test.YtljfagagopaidaaLf3
import Derived.Lib.Hide
namespace Go.Proofs.Ytljfagagopaidaa
open Go.RowKit Go.Proofs.YtljfagagopaidaaW.PrintWords
set_option linter.unusedSimpArgs false
set_option linter.unusedVariables false

theorem i64_wraps (n : Int) (h0 : 0 ≤ n) (h1 : n < 2 ^ 32) : IntKind.i64.wrap n = n := IntWalk.i64_in _ (by omega)
theorem xor_nat (a b : Nat) (ha : a < 4294967296) (hb : b < 4294967296) : Go.bits .xor .i64 (a : Int) (b : Int) = ((a ^^^ b : Nat) : Int) := by
  have hx : a ^^^ b < 2 ^ 32 := Nat.xor_lt_two_pow (by omega) (by omega)
  have h64 : IntKind.i64.bits = 64 := rfl
  have e1 : BitVec.ofInt IntKind.i64.bits (a : Int) = BitVec.ofNat 64 a := by rw [BitVec.ofInt_natCast]; rfl
  have e2 : BitVec.ofInt IntKind.i64.bits (b : Int) = BitVec.ofNat 64 b := by rw [BitVec.ofInt_natCast]; rfl
  have e3 : (BitVec.ofInt IntKind.i64.bits (a : Int) ^^^ BitVec.ofInt IntKind.i64.bits (b : Int)).toNat = a ^^^ b := by
    rw [e1, e2]
    show (BitVec.ofNat 64 a ^^^ BitVec.ofNat 64 b).toNat = _
    rw [BitVec.toNat_xor, BitVec.toNat_ofNat, BitVec.toNat_ofNat, Nat.mod_eq_of_lt (by omega), Nat.mod_eq_of_lt (by omega)]
  unfold Go.bits
  show IntKind.i64.wrap ((BitVec.ofInt IntKind.i64.bits (a : Int) ^^^ BitVec.ofInt IntKind.i64.bits (b : Int)).toNat : Int) = _
  rw [e3]
  exact i64_wraps _ (by omega) (by omega)

/-- One bit of the cyclic sum. -/
def crcN (c : Nat) : Nat := if c % 2 = 1 then (c / 2) ^^^ 3988292384 else c / 2
def crcK : Nat → Nat → Nat
  | 0, c => c
  | k + 1, c => crcK k (crcN c)
def crcL : List UInt8 → Nat → Nat
  | [], c => c
  | b :: t, c => crcL t (crcK 8 (c ^^^ b.toNat))
def crc (s : ByteArray) : Nat := crcL s.data.toList 4294967295 ^^^ 4294967295

theorem crcN_lt {c : Nat} (h : c < 4294967296) : crcN c < 4294967296 := by
  unfold crcN
  split
  · exact Nat.xor_lt_two_pow (n := 32) (by omega) (by omega)
  · omega
theorem crcK_lt : ∀ (k : Nat) {c : Nat}, c < 4294967296 → crcK k c < 4294967296
  | 0, _, h => h
  | k + 1, _, h => crcK_lt k (crcN_lt h)
theorem xor_byte_lt {c : Nat} (h : c < 4294967296) (b : UInt8) : c ^^^ b.toNat < 4294967296 := Nat.xor_lt_two_pow (n := 32) (by omega) (by have := b.toNat_lt; omega)
theorem crcL_lt : ∀ (l : List UInt8) {c : Nat}, c < 4294967296 → crcL l c < 4294967296
  | [], _, h => h
  | b :: t, _, h => crcL_lt t (crcK_lt 8 (xor_byte_lt h b))
theorem crc_lt (s : ByteArray) : crc s < 4294967296 := Nat.xor_lt_two_pow (n := 32) (crcL_lt _ (by decide)) (by decide)

theorem and_one (c : Nat) (h : c < 4294967296) : Go.bits .and .i64 (c : Int) 1 = ((c % 2 : Nat) : Int) := by
  have := bits_mask .i64 32 (by decide) i64_wraps 1 (by decide) (c : Int) (by omega) (by omega)
  exact this.trans (by omega)

theorem crc_bit (c : Nat) (h : c < 4294967296) : Go.bits .xor .i64 ((c : Int) / 2) (wrap64 (3988292384 * (Go.bits .and .i64 (c : Int) 1))) = (crcN c : Int) := by
  rw [and_one c h]
  unfold crcN
  rcases Nat.mod_two_eq_zero_or_one c with e | e
  · rw [e, if_neg (by omega)]
    show Go.bits .xor .i64 ((c : Int) / 2) (wrap64 (3988292384 * (0 : Int))) = _
    have := xor_nat (c / 2) 0 (by omega) (by omega)
    rw [Nat.xor_zero] at this
    rw [← this]
    congr 1
    unfold wrap64; omega
  · rw [e, if_pos rfl]
    show Go.bits .xor .i64 ((c : Int) / 2) (wrap64 (3988292384 * (1 : Int))) = _
    have := xor_nat (c / 2) 3988292384 (by omega) (by omega)
    rw [← this]
    congr 1
    unfold wrap64; omega

theorem wrap_succ {i n : Nat} (h : i ≤ n) (hn : n ≤ 9223372036854775806) : wrap64 ((i : Int) + 1) = ((i + 1 : Nat) : Int) := by
  unfold wrap64
  omega
theorem wrap_byte (s : ByteArray) (i : Int) : wrap64 (bt s i) = bt s i := by
  have := bt_range s i
  unfold wrap64
  omega
theorem bt_list (s : ByteArray) (i : Nat) (h : i < s.size) : s.data.toList.drop i = s[i] :: s.data.toList.drop (i + 1) ∧ bt s i = ((s[i].toNat : Nat) : Int) := by
  constructor
  · exact List.drop_eq_getElem_cons (by simpa using h)
  · exact (bt_at s i (by simpa using h)).symm

theorem crc_l1 (s : ByteArray) (z i : Int) (r : Int) : ∀ (n j c : Nat), j + n = 8 → c < 4294967296 → Ev (fun k => Lf.bits_Crc.l0 k s (crcK n c : Nat) z (wrap64 (i + 1))) r → Ev (fun k => Lf.bits_Crc.l1 k s (c : Int) z i (j : Int)) r
  | 0, j, c, hj, hc, h => by
    refine Ev.step (f := fun k => Lf.bits_Crc.l0 k s (c : Int) z (wrap64 (i + 1))) (fun k => ?_) h
    simp only [Lf.bits_Crc.l1]
    rw [if_neg (by omega)]
  | n + 1, j, c, hj, hc, h => by
    refine Ev.step (f := fun k => Lf.bits_Crc.l1 k s (crcN c : Nat) z i ((j + 1 : Nat) : Int)) (fun k => ?_) (crc_l1 s z i r n (j + 1) (crcN c) (by omega) (crcN_lt hc) h)
    simp only [Lf.bits_Crc.l1]
    rw [if_pos (by omega), crc_bit c hc, wrap_succ (n := 8) (by omega) (by omega)]

theorem crc_l0 (s : ByteArray) (hs : s.size ≤ 1099511627776) : ∀ (n i c : Nat), i + n = s.size → c < 4294967296 → Ev (fun k => Lf.bits_Crc.l0 k s (c : Int) (s.size : Int) (i : Int)) ((crcL (s.data.toList.drop i) c ^^^ 4294967295 : Nat) : Int)
  | 0, i, c, hi, hc => by
    have e : s.data.toList.drop i = [] := List.drop_eq_nil_of_le (by simp; omega)
    rw [e]
    refine Ev.step (f := fun _ => some ((c ^^^ 4294967295 : Nat) : Int)) (fun k => ?_) (Ev.now _)
    simp only [Lf.bits_Crc.l0]
    rw [if_neg (by omega)]
    exact congrArg some (xor_nat c 4294967295 hc (by decide))
  | n + 1, i, c, hi, hc => by
    obtain ⟨e1, e2⟩ := bt_list s i (by omega)
    have ih := crc_l0 s hs n (i + 1) (crcK 8 (c ^^^ (s[i]).toNat)) (by omega) (crcK_lt 8 (xor_byte_lt hc _))
    rw [e1]
    refine Ev.step (f := fun k => Lf.bits_Crc.l1 k s ((c ^^^ (s[i]).toNat : Nat) : Int) (s.size : Int) (i : Int) ((0 : Nat) : Int)) (fun k => ?_) (crc_l1 s _ _ _ 8 0 _ rfl (xor_byte_lt hc _) ?_)
    · simp only [Lf.bits_Crc.l0]
      rw [if_pos (by omega), if_pos (by omega), if_pos (by omega), wrap_byte, e2, xor_nat c _ hc (by have := (s[i]).toNat_lt; omega)]
      rfl
    · rw [wrap_succ (n := s.size) (by omega) (by omega)]
      exact ih

theorem crc_ev (s : ByteArray) (hs : s.size ≤ 1099511627776) : Ev (fun k => Lf.bits_Crc.f k s) ((crc s : Nat) : Int) := by
  have := crc_l0 s hs s.size 0 4294967295 (by omega) (by decide)
  exact this

/-! ### the document's sum -/
theorem rcrc_bit (c : Nat) (h : c < 4294967296) : (Int.tmod (c : Int) 2 = 1 → Go.bits .xor .i64 (wrap64 (Int.tdiv (c : Int) 2)) 3988292384 = (crcN c : Int)) ∧ (Int.tmod (c : Int) 2 ≠ 1 → wrap64 (Int.tdiv (c : Int) 2) = (crcN c : Int)) := by
  have hd : wrap64 (Int.tdiv (c : Int) 2) = ((c / 2 : Nat) : Int) := by
    rw [Int.tdiv_eq_ediv_of_nonneg (by omega)]
    unfold wrap64
    omega
  have hm : Int.tmod (c : Int) 2 = ((c % 2 : Nat) : Int) := by rw [Int.tmod_eq_emod_of_nonneg (by omega)]; omega
  rw [hd, hm]
  unfold crcN
  constructor
  · intro e
    rw [if_pos (by omega)]
    exact xor_nat (c / 2) 3988292384 (by omega) (by decide)
  · intro e
    rw [if_neg (by omega)]
theorem rcrc_l1 (s : ByteArray) (i : Int) (r : Int) : ∀ (n j c : Nat), j + n = 8 → c < 4294967296 → Ev (fun k => Lf.vitrineref01_Crc.l0 k s (crcK n c : Nat) (wrap64 (i + 1))) r → Ev (fun k => Lf.vitrineref01_Crc.l1 k s (c : Int) i (j : Int)) r
  | 0, j, c, hj, hc, h => by
    refine Ev.step (f := fun k => Lf.vitrineref01_Crc.l0 k s (c : Int) (wrap64 (i + 1))) (fun k => ?_) h
    simp only [Lf.vitrineref01_Crc.l1]
    rw [if_neg (by omega)]
  | n + 1, j, c, hj, hc, h => by
    refine Ev.step (f := fun k => Lf.vitrineref01_Crc.l1 k s (crcN c : Nat) i ((j + 1 : Nat) : Int)) (fun k => ?_) (rcrc_l1 s i r n (j + 1) (crcN c) (by omega) (crcN_lt hc) h)
    simp only [Lf.vitrineref01_Crc.l1]
    rw [if_pos (by omega), wrap_succ (n := 8) (by omega) (by omega)]
    by_cases e : Int.tmod (c : Int) 2 = 1
    · rw [if_pos e, (rcrc_bit c hc).1 e]
    · rw [if_neg e, (rcrc_bit c hc).2 e]
theorem rcrc_l0 (s : ByteArray) (hs : s.size ≤ 1099511627776) : ∀ (n i c : Nat), i + n = s.size → c < 4294967296 → Ev (fun k => Lf.vitrineref01_Crc.l0 k s (c : Int) (i : Int)) ((crcL (s.data.toList.drop i) c ^^^ 4294967295 : Nat) : Int)
  | 0, i, c, hi, hc => by
    have e : s.data.toList.drop i = [] := List.drop_eq_nil_of_le (by simp; omega)
    rw [e]
    refine Ev.step (f := fun _ => some ((c ^^^ 4294967295 : Nat) : Int)) (fun k => ?_) (Ev.now _)
    simp only [Lf.vitrineref01_Crc.l0]
    rw [if_neg (by omega)]
    exact congrArg some (xor_nat c 4294967295 hc (by decide))
  | n + 1, i, c, hi, hc => by
    obtain ⟨e1, e2⟩ := bt_list s i (by omega)
    have ih := rcrc_l0 s hs n (i + 1) (crcK 8 (c ^^^ (s[i]).toNat)) (by omega) (crcK_lt 8 (xor_byte_lt hc _))
    rw [e1]
    refine Ev.step (f := fun k => Lf.vitrineref01_Crc.l1 k s ((c ^^^ (s[i]).toNat : Nat) : Int) (i : Int) ((0 : Nat) : Int)) (fun k => ?_) (rcrc_l1 s _ _ 8 0 _ rfl (xor_byte_lt hc _) ?_)
    · simp only [Lf.vitrineref01_Crc.l0]
      rw [if_pos (by omega), if_pos (by omega), wrap_byte, e2, xor_nat c _ hc (by have := (s[i]).toNat_lt; omega)]
      rfl
    · rw [wrap_succ (n := s.size) (by omega) (by omega)]
      exact ih
theorem rcrc_ev (s : ByteArray) (hs : s.size ≤ 1099511627776) : Ev (fun k => Lf.vitrineref01_Crc.f k s) ((crc s : Nat) : Int) := rcrc_l0 s hs s.size 0 4294967295 (by omega) (by decide)

/-! ### numbers of four bytes -/
def num (s : ByteArray) : Int := bt s 0 * 16777216 + bt s 1 * 65536 + bt s 2 * 256 + bt s 3
theorem num_range (s : ByteArray) : 0 ≤ num s ∧ num s < 4294967296 := by
  have h0 := bt_range s 0
  have h1 := bt_range s 1
  have h2 := bt_range s 2
  have h3 := bt_range s 3
  unfold num
  omega
theorem or_join (i : Nat) (hi : i ≤ 32) (x y : Int) (hx0 : 0 ≤ x) (hx : x % 2 ^ i = 0) (hx1 : x < 4294967296) (hy0 : 0 ≤ y) (hy : y < 2 ^ i) (hy1 : y < 4294967296) : Go.bits .or .i64 x y = x + y :=
  bits_join .i64 32 (by decide) i64_wraps i x y hx0 hx (by omega) hy0 hy (by omega)
theorem number_f (s : ByteArray) (h : 4 ≤ s.size) : Lf.seglog_number.f s = some (num s) := by
  have h0 := bt_range s 0
  have h1 := bt_range s 1
  have h2 := bt_range s 2
  have h3 := bt_range s 3
  unfold Lf.seglog_number.f
  rw [if_pos (by omega), if_pos (by omega), if_pos (by omega), if_pos (by omega), wrap_byte, wrap_byte, wrap_byte, wrap_byte]
  have w0 : wrap64 (bt s 0 * 16777216) = bt s 0 * 16777216 := by unfold wrap64; omega
  have w1 : wrap64 (bt s 1 * 65536) = bt s 1 * 65536 := by unfold wrap64; omega
  have w2 : wrap64 (bt s 2 * 256) = bt s 2 * 256 := by unfold wrap64; omega
  rw [w0, w1, w2]
  clear w0 w1 w2
  rw [or_join 24 (by decide) (bt s 0 * 16777216) (bt s 1 * 65536) (by omega) (by omega) (by omega) (by omega) (by omega) (by omega)]
  rw [or_join 16 (by decide) (bt s 0 * 16777216 + bt s 1 * 65536) (bt s 2 * 256) (by omega) (by omega) (by omega) (by omega) (by omega) (by omega)]
  rw [or_join 8 (by decide) (bt s 0 * 16777216 + bt s 1 * 65536 + bt s 2 * 256) (bt s 3) (by omega) (by omega) (by omega) (by omega) (by omega) (by omega)]
  rfl
theorem of_ev (s : ByteArray) (h : s.size = 4) : Ev (fun k => Lf.vitrineref06_Of.f k s) (num s) := by
  have h0 := bt_range s 0
  have h1 := bt_range s 1
  have h2 := bt_range s 2
  have h3 := bt_range s 3
  have hr : ∀ k, Lf.vitrineref06_Of.f (k + 5) s = some (num s) := by
    intro k
    unfold Lf.vitrineref06_Of.f num
    have w (a b : Int) (ha : 0 ≤ a ∧ a < 4294967296) (hb : 0 ≤ b ∧ b ≤ 255) : wrap64 (wrap64 (256 * a) + b) = 256 * a + b := by unfold wrap64; omega
    have w1 : wrap64 ((0 : Int) + 1) = 1 := by unfold wrap64; omega
    have w2 : wrap64 ((1 : Int) + 1) = 2 := by unfold wrap64; omega
    have w3 : wrap64 ((2 : Int) + 1) = 3 := by unfold wrap64; omega
    have w4 : wrap64 ((3 : Int) + 1) = 4 := by unfold wrap64; omega
    simp only [Lf.vitrineref06_Of.l0]
    rw [if_pos (by omega), if_pos (by omega), w1, if_pos (by omega), if_pos (by omega), w2, if_pos (by omega), if_pos (by omega), w3, if_pos (by omega), if_pos (by omega), w4, if_neg (by omega)]
    simp only [wrap_byte]
    rw [w 0 _ (by omega) h0, w _ _ (by omega) h1, w _ _ (by omega) h2, w _ _ (by omega) h3]
    exact congrArg some (by omega)
  exact ⟨5, fun k hk => by obtain ⟨m, rfl⟩ : ∃ m, k = m + 5 := ⟨k - 5, by omega⟩; exact hr m⟩

/-- A number in four bytes. -/
def big4 (n : Int) : ByteArray := strOfNums [(n / 16777216) % 256, (n / 65536) % 256, (n / 256) % 256, n % 256]
theorem big4_size (n : Int) : (big4 n).size = 4 := by unfold big4; rw [strOfNums_size]; rfl
theorem big_f (n : Int) : Lf.seglog_big.f n = some (big4 n) := rfl
theorem four_f {n : Int} (h : 0 ≤ n) (h1 : n < 4294967296) : Lf.vitrineref06_Four.f n = some (big4 n) := by
  unfold Lf.vitrineref06_Four.f big4
  have w (d : Int) (hd : 0 < d) : wrap64 (Int.tdiv n d) = n / d := by
    rw [Int.tdiv_eq_ediv_of_nonneg h]
    have a : 0 ≤ n / d := Int.ediv_nonneg h (by omega)
    have b : n / d ≤ n := Int.ediv_le_self d h
    unfold wrap64
    omega
  rw [w _ (by decide), w _ (by decide), w _ (by decide)]
theorem bt_of {s : ByteArray} {i : Nat} {b : UInt8} (h : s.data.toList[i]? = some b) : bt s i = (b.toNat : Int) := by
  have hi : i < s.size := by
    have := (List.getElem?_eq_some_iff.1 h).1
    simpa using this
  rw [(bt_list s i hi).2]
  have : s.data.toList[i]? = some s[i] := by
    rw [List.getElem?_eq_getElem (by simpa using hi)]
    rfl
  rw [this] at h
  injection h with h
  rw [h]
theorem byte_of (x : Int) (h0 : 0 ≤ x) (h1 : x < 256) : ((UInt8.ofNat x.toNat).toNat : Int) = x := by
  rw [UInt8.toNat_ofNat']
  omega
/-- What stands behind the four bytes makes no difference. -/
theorem num_big4 (n : Int) (h0 : 0 ≤ n) (h1 : n < 4294967296) (t : ByteArray) : num (big4 n ++ t) = n := by
  have hd : (big4 n ++ t).data.toList = [UInt8.ofNat ((n / 16777216) % 256).toNat, UInt8.ofNat ((n / 65536) % 256).toNat, UInt8.ofNat ((n / 256) % 256).toNat, UInt8.ofNat (n % 256).toNat] ++ t.data.toList := by
    rw [ByteArray.data_append, Array.toList_append]
    rfl
  unfold num
  have e0 := bt_of (s := big4 n ++ t) (i := 0) (by rw [hd]; rfl)
  have e1 := bt_of (s := big4 n ++ t) (i := 1) (by rw [hd]; rfl)
  have e2 := bt_of (s := big4 n ++ t) (i := 2) (by rw [hd]; rfl)
  have e3 := bt_of (s := big4 n ++ t) (i := 3) (by rw [hd]; rfl)
  rw [byte_of _ (by omega) (by omega)] at e0 e1 e2 e3
  show bt (big4 n ++ t) (0 : Nat) * 16777216 + bt (big4 n ++ t) (1 : Nat) * 65536 + bt (big4 n ++ t) (2 : Nat) * 256 + bt (big4 n ++ t) (3 : Nat) = n
  rw [e0, e1, e2, e3]
  omega

end Go.Proofs.Ytljfagagopaidaa

/- What bytes say: the records of a file, one by one; the printed functions of the program and of the document come to one answer. -/
namespace Go.Proofs.Ytljfagagopaidaa
open Go.RowKit Go.Proofs.YtljfagagopaidaaW.PrintWords
set_option linter.unusedSimpArgs false
set_option linter.unusedVariables false

theorem ba_ext {a b : ByteArray} (h : a.data.toList = b.data.toList) : a = b := by
  apply ByteArray.ext
  exact Array.toList_inj.1 h
theorem ba_extract (a : ByteArray) (i j : Nat) : (a.extract i j).data.toList = (a.data.toList.take j).drop i := by
  rw [ByteArray.data_extract, Array.toList_extract, List.drop_take]
theorem ba_append (a b : ByteArray) : (a ++ b).data.toList = a.data.toList ++ b.data.toList := by
  rw [ByteArray.data_append, Array.toList_append]
theorem ba_length (a : ByteArray) : a.data.toList.length = a.size := by simp

/-- The record that bytes begin with. -/
def nextR (s : ByteArray) : Option ByteArray :=
  if s.size < 8 then none
  else if num s = 0 ∨ 1000000 < num s ∨ (s.size : Int) - 8 < num s then none
  else if num (s.extract 4 s.size) = (crc (s.extract 8 (8 + (num s).toNat)) : Nat) then some (s.extract 8 (8 + (num s).toNat)) else none

theorem nextR_some {s r : ByteArray} (h : nextR s = some r) : 8 + r.size ≤ s.size ∧ (r.size : Int) = num s ∧ 1 ≤ r.size ∧ r.size ≤ 1000000 ∧ r = s.extract 8 (8 + r.size) := by
  unfold nextR at h
  have hn := num_range s
  split at h
  · cases h
  · split at h
    · cases h
    · split at h
      · injection h with h
        have hs : r.size = (num s).toNat := by rw [← h, ByteArray.size_extract]; omega
        refine ⟨by omega, by omega, by omega, by omega, ?_⟩
        rw [hs]; exact h.symm
      · cases h

/-- All records, and what stands behind them. -/
def parse (s : ByteArray) : List ByteArray × ByteArray :=
  match h : nextR s with
  | none => ([], s)
  | some r => (r :: (parse (s.extract (8 + r.size) s.size)).1, (parse (s.extract (8 + r.size) s.size)).2)
termination_by s.size
decreasing_by
  all_goals
    have := nextR_some h
    rw [ByteArray.size_extract]
    omega

theorem parse_none {s : ByteArray} (h : nextR s = none) : parse s = ([], s) := by
  rw [parse]
  split
  · rfl
  · rename_i r hr
    rw [h] at hr
    cases hr
theorem parse_some {s r : ByteArray} (h : nextR s = some r) : parse s = (r :: (parse (s.extract (8 + r.size) s.size)).1, (parse (s.extract (8 + r.size) s.size)).2) := by
  rw [parse]
  split
  · rename_i hr
    rw [h] at hr
    cases hr
  · rename_i r' hr
    rw [h] at hr
    injection hr with hr
    subst hr
    rfl

theorem parse_size : ∀ (n : Nat) (s : ByteArray), s.size ≤ n → (parse s).2.size + 9 * (parse s).1.length ≤ s.size
  | 0, s, h => by
    have : nextR s = none := by unfold nextR; rw [if_pos (by omega)]
    rw [parse_none this]
    simp
  | n + 1, s, h => by
    cases hn : nextR s with
    | none => rw [parse_none hn]; simp
    | some r =>
      have h1 := nextR_some hn
      have hz : (s.extract (8 + r.size) s.size).size = s.size - (8 + r.size) := by rw [ByteArray.size_extract]; omega
      have ih := parse_size n (s.extract (8 + r.size) s.size) (by omega)
      rw [parse_some hn]
      simp only [List.length_cons]
      omega

/-- A file's own records, and where they end. -/
def holdsR (s : ByteArray) : Option (List ByteArray × Int) :=
  match (parse s).1 with
  | [] => none
  | h :: t => if h.size = 4 ∧ num h ≤ t.length then some (t, (s.size : Int) - (parse s).2.size) else none
def foundV (s : ByteArray) : List ByteArray × Int × Bool :=
  match holdsR s with
  | none => ([], 0, false)
  | some (l, n) => (l, n, true)

def foundW (l : List ByteArray) (e : Int) : List ByteArray × Int × Bool :=
  match l with
  | [] => ([], 0, false)
  | h :: t => if h.size = 4 ∧ num h ≤ t.length then (t, e, true) else ([], 0, false)
theorem foundW_cons (h : ByteArray) (t : List ByteArray) (e : Int) : foundW (h :: t) e = if h.size = 4 ∧ num h ≤ t.length then (t, e, true) else ([], 0, false) := rfl

/-! ### the program's -/
theorem next_ev (s : ByteArray) (hs : s.size ≤ 1099511627776) : ∃ r0, Ev (fun k => Lf.seglog_next.f k s) (r0, (nextR s).isSome) ∧ ∀ r, nextR s = some r → r0 = r := by
  unfold nextR
  by_cases h8 : s.size < 8
  · rw [if_pos h8]
    refine ⟨⟨#[]⟩, ?_, fun r h => by cases h⟩
    refine Ev.congr (f := fun _ => some ((⟨#[]⟩ : ByteArray), false)) (fun k => ?_) (Ev.now _)
    unfold Lf.seglog_next.f
    rw [if_pos (by omega)]
  · rw [if_neg h8]
    have hn := num_range s
    have w8 := Lib.hid (show wrap64 ((s.size : Int) - 8) = (s.size : Int) - 8 by unfold wrap64; omega)
    by_cases hb : num s = 0 ∨ 1000000 < num s ∨ (s.size : Int) - 8 < num s
    · rw [if_pos hb]
      refine ⟨⟨#[]⟩, ?_, fun r h => by cases h⟩
      have hj : Ev (fun k => Lf.seglog_next.j0 k s (num s) true) ((⟨#[]⟩ : ByteArray), false) := by
        refine Ev.step (f := fun _ => some ((⟨#[]⟩ : ByteArray), false)) (fun k => ?_) (Ev.now _)
        simp only [Lf.seglog_next.j0]
        rw [if_pos (by trivial)]
      refine Ev.congr (fun k => ?_) hj
      unfold Lf.seglog_next.f
      rw [if_neg (by omega), number_f s (by omega)]
      simp only [Option.bind_some]
      rw [w8.out]
      by_cases h0 : num s = 0
      · rw [if_pos h0]
      · rw [if_neg h0]
        by_cases h1 : num s > 1000000
        · rw [if_pos h1]
        · rw [if_neg h1, decide_eq_true (by omega)]
    · rw [if_neg hb]
      obtain ⟨m, hm⟩ : ∃ m : Nat, num s = m := ⟨(num s).toNat, by omega⟩
      have hm8 := Lib.hid (show wrap64 (8 + num s) = ((8 + m : Nat) : Int) by unfold wrap64; omega)
      have hx4 : 4 ≤ (s.extract 4 s.size).size := by rw [ByteArray.size_extract]; omega
      have hxs : (s.extract 8 (8 + m)).size ≤ 1099511627776 := by rw [ByteArray.size_extract]; omega
      have hmt : (num s).toNat = m := by omega
      rw [hmt]
      refine ⟨s.extract 8 (8 + m), ?_, fun r h => ?_⟩
      · have hj : Ev (fun k => Lf.seglog_next.j0 k s (num s) false) (s.extract 8 (8 + m), (num (s.extract 4 s.size) == (crc (s.extract 8 (8 + m)) : Nat))) := by
          refine Ev.step (f := fun k => (Lf.bits_Crc.f k (s.extract 8 (8 + m))).bind fun t112 => some (s.extract 8 (8 + m), (num (s.extract 4 s.size) == t112))) (fun k => ?_) (Ev.bind (crc_ev _ hxs) (Ev.now _))
          simp only [Lf.seglog_next.j0]
          rw [if_neg (by simp), hm8.out, if_pos (by omega), if_pos (by omega), if_pos (by omega), number_f _ hx4]
          simp only [Option.bind_some, Int.toNat_natCast]
        have he : (if num (s.extract 4 s.size) = (crc (s.extract 8 (8 + m)) : Nat) then some (s.extract 8 (8 + m)) else none).isSome = (num (s.extract 4 s.size) == (crc (s.extract 8 (8 + m)) : Nat)) := by
          by_cases e : num (s.extract 4 s.size) = (crc (s.extract 8 (8 + m)) : Nat)
          · rw [if_pos e, beq_iff_eq.2 e]; rfl
          · rw [if_neg e, beq_eq_false_iff_ne.2 e]; rfl
        rw [he]
        refine Ev.congr (fun k => ?_) hj
        unfold Lf.seglog_next.f
        rw [if_neg (by omega), number_f s (by omega)]
        simp only [Option.bind_some]
        rw [w8.out, if_neg (by omega), if_neg (by omega), decide_eq_false (by omega)]
      · split at h
        · injection h
        · cases h

theorem found_l0 (x0 : ByteArray) (hx : x0.size ≤ 1099511627776) : ∀ (n : Nat) (s : ByteArray) (acc : List ByteArray) (r : List ByteArray × Int × Bool), s.size ≤ n → s.size + 9 * acc.length ≤ x0.size →
    (∀ r0, Ev (fun k => Lf.seglog_found.l0 k x0 (acc ++ (parse s).1) (parse s).2 r0 false) r) → ∀ r0 b, b = (nextR s).isSome → (∀ q, nextR s = some q → r0 = q) → Ev (fun k => Lf.seglog_found.l0 k x0 acc s r0 b) r
  | 0, s, acc, r, hn, ha, h, r0, b, hb, hr0 => by
    have hn' : nextR s = none := by unfold nextR; rw [if_pos (by omega)]
    rw [hn'] at hb
    subst hb
    have := h r0
    rw [parse_none hn', List.append_nil] at this
    exact this
  | n + 1, s, acc, r, hn, ha, h, r0, b, hb, hr0 => by
    cases hq : nextR s with
    | none =>
      rw [hq] at hb
      subst hb
      have := h r0
      rw [parse_none hq, List.append_nil] at this
      exact this
    | some q =>
      have hs := nextR_some hq
      obtain rfl := hr0 q hq
      rw [hq] at hb
      subst hb
      have hz : (s.extract (8 + r0.size) s.size).size = s.size - (8 + r0.size) := by rw [ByteArray.size_extract]; omega
      obtain ⟨r1, e1, e2⟩ := next_ev (s.extract (8 + r0.size) s.size) (by omega)
      have ih := found_l0 x0 hx n (s.extract (8 + r0.size) s.size) (acc ++ [r0]) r (by omega) (by rw [List.length_append, List.length_singleton]; omega) (fun r2 => by
        have := h r2
        rw [parse_some hq] at this
        simpa using this) r1 _ rfl e2
      refine Ev.step (f := fun k => (Lf.seglog_next.f k (s.extract (8 + r0.size) s.size)).bind fun bt => Lf.seglog_found.l0 k x0 (acc ++ [r0]) (s.extract (8 + r0.size) s.size) bt.1 bt.2) (fun k => ?_) (Ev.bind e1 ih)
      have hw := Lib.hid (show wrap64 (8 + (r0.size : Int)) = ((8 + r0.size : Nat) : Int) by unfold wrap64; omega)
      simp only [Lf.seglog_found.l0]
      rw [if_pos (by rfl), if_pos (by omega), hw.out, if_pos (by omega), if_pos (by omega), Int.toNat_natCast]

theorem found_end (x0 : ByteArray) (hx : x0.size ≤ 1099511627776) (l : List ByteArray) (rest r0 : ByteArray) (hr : rest.size ≤ x0.size) :
    Ev (fun k => Lf.seglog_found.l0 k x0 l rest r0 false) (foundW l ((x0.size : Int) - rest.size)) := by
  refine Ev.step (f := fun _ => some (foundW l ((x0.size : Int) - rest.size))) (fun k => ?_) (Ev.now _)
  simp only [Lf.seglog_found.l0]
  rw [if_neg (by simp)]
  cases l with
  | nil => rfl
  | cons h t =>
    have e0 : rdOf ByteArray.empty (h :: t) 0 = h := rfl
    have hl : ((h :: t).length : Int) = t.length + 1 := by simp
    rw [if_neg (by omega), if_pos (by omega), e0, hl, foundW_cons]
    by_cases h4 : h.size = 4
    · rw [if_pos (by omega), number_f h (by omega)]
      simp only [Option.bind_some]
      by_cases hq : num h ≤ t.length
      · have hw := Lib.hid (show wrap64 ((x0.size : Int) - rest.size) = (x0.size : Int) - rest.size by unfold wrap64; omega)
        rw [if_neg (by omega), if_pos (by omega), if_pos ⟨h4, hq⟩, hw.out]
        rfl
      · rw [if_pos (by omega), if_neg (fun e => hq e.2)]
    · rw [if_neg (by omega), if_neg (fun e => h4 e.1)]

theorem foundV_eq (s : ByteArray) : foundV s = foundW (parse s).1 ((s.size : Int) - (parse s).2.size) := by
  unfold foundV holdsR foundW
  cases (parse s).1 with
  | nil => rfl
  | cons h t =>
    by_cases e : h.size = 4 ∧ num h ≤ t.length
    · simp only [if_pos e]
    · simp only [if_neg e]

theorem found_ev (s : ByteArray) (hs : s.size ≤ 1099511627776) : Ev (fun k => Lf.seglog_found.f k s) (foundV s) := by
  obtain ⟨r0, e0, e1⟩ := next_ev s hs
  have hz := parse_size s.size s (Nat.le_refl _)
  rw [foundV_eq]
  have := found_l0 s hs s.size s [] _ (Nat.le_refl _) (by simp) (fun r2 => by
    rw [List.nil_append]
    exact found_end s hs (parse s).1 (parse s).2 r2 (by omega)) r0 _ rfl e1
  exact Ev.bind e0 this

/-! ### the document's -/
theorem rrec_l0 (x0 : ByteArray) (hx : x0.size ≤ 1099511627776) : ∀ (n at_ : Nat) (acc : List ByteArray), at_ + n = x0.size → 9 * acc.length ≤ at_ →
    Ev (fun k => Lf.vitrineref17_Records.l0 k x0 acc (at_ : Int)) (acc ++ (parse (x0.extract at_ x0.size)).1, (x0.size : Int) - (parse (x0.extract at_ x0.size)).2.size) := by
  intro n
  induction n using Nat.strongRecOn with
  | ind n ih =>
  intro at_ acc hn ha
  obtain ⟨s, hsd⟩ : ∃ s, s = x0.extract at_ x0.size := ⟨_, rfl⟩
  have hss : s.size = n := by rw [hsd, ByteArray.size_extract]; omega
  rw [← hsd]
  have wsub := Lib.hid (show wrap64 ((x0.size : Int) - (at_ : Int)) = (n : Int) by unfold wrap64; omega)
  have hx1 : ∀ a b : Nat, at_ + b ≤ x0.size → x0.extract (at_ + a) (at_ + b) = s.extract a b := by
    intro a b hb
    apply ba_ext
    rw [hsd, ba_extract, ba_extract, ba_extract, List.take_drop, List.drop_drop, List.take_take, Nat.min_eq_left (by omega)]
  have hx1' : x0.extract at_ (at_ + 4) = s.extract 0 4 ∨ ¬ (at_ + 4 ≤ x0.size) := by
    by_cases h : at_ + 4 ≤ x0.size
    · exact .inl (hx1 0 4 h)
    · exact .inr h
  have hnum (a : Nat) (ha4 : a + 4 ≤ s.size) : num (s.extract a (a + 4)) = num (s.extract a s.size) := by
    have e : s.extract a s.size = s.extract a (a + 4) ++ s.extract (a + 4) s.size := by
      apply ba_ext
      rw [ba_append, ba_extract, ba_extract, ba_extract]
      have hl := ba_length s
      rw [List.take_of_length_le (by omega : s.data.toList.length ≤ s.size), List.drop_take, show a + 4 - a = 4 from by omega, ← List.drop_drop, List.take_append_drop]
    have hb (i : Nat) (hi : i < 4) : bt (s.extract a s.size) i = bt (s.extract a (a + 4)) i := by
      have hz : (s.extract a (a + 4)).size = 4 := by rw [ByteArray.size_extract]; omega
      have hgi : (s.extract a (a + 4)).data.toList[i]? = some (s.extract a (a + 4))[i] := by
        rw [List.getElem?_eq_getElem (by simp; omega)]
        rfl
      rw [bt_of (s := s.extract a (a + 4)) hgi]
      refine bt_of ?_
      rw [e, ba_append, List.getElem?_append_left (by simp; omega)]
      exact hgi
    have h0 := hb 0 (by omega)
    have h1 := hb 1 (by omega)
    have h2 := hb 2 (by omega)
    have h3 := hb 3 (by omega)
    unfold num
    rw [show ((0 : Nat) : Int) = 0 from rfl] at h0
    rw [show ((1 : Nat) : Int) = 1 from rfl] at h1
    rw [show ((2 : Nat) : Int) = 2 from rfl] at h2
    rw [show ((3 : Nat) : Int) = 3 from rfl] at h3
    rw [h0, h1, h2, h3]
  by_cases h8 : n < 8
  · have hnx : nextR s = none := by unfold nextR; rw [if_pos (by omega)]
    rw [parse_none hnx]
    refine Ev.step (f := fun _ => some (acc, (at_ : Int))) (fun k => ?_) ?_
    · simp only [Lf.vitrineref17_Records.l0]
      rw [wsub.out, if_neg (by omega)]
    · have : (acc ++ ([], s).1, (x0.size : Int) - (([] : List ByteArray), s).2.size) = (acc, (at_ : Int)) := by
        simp only [List.append_nil]
        rw [hss]
        congr 1
        omega
      rw [this]
      exact Ev.now _
  · have w4 := Lib.hid (show wrap64 ((at_ : Int) + 4) = ((at_ + 4 : Nat) : Int) by unfold wrap64; omega)
    have hs0 : s.extract 0 s.size = s := by
      apply ba_ext
      rw [ba_extract, List.drop_zero, List.take_of_length_le (by rw [ba_length]; omega)]
    have hof0 : Ev (fun k => Lf.vitrineref06_Of.f k (x0.extract at_ (at_ + 4))) (num s) := by
      have e := hx1 0 4 (by omega)
      rw [Nat.add_zero] at e
      have hz : (s.extract 0 4).size = 4 := by rw [ByteArray.size_extract]; omega
      have := of_ev (s.extract 0 4) hz
      rw [e]
      have h4 := hnum 0 (by omega)
      rw [Nat.zero_add] at h4
      rw [h4, hs0] at this
      exact this
    have hnr := num_range s
    have w8a := Lib.hid (show wrap64 ((at_ : Int) + 8) = ((at_ + 8 : Nat) : Int) by unfold wrap64; omega)
    have wn8 := Lib.hid (show wrap64 ((n : Int) - 8) = (n : Int) - 8 by unfold wrap64; omega)
    by_cases hb : num s = 0 ∨ 1000000 < num s ∨ (s.size : Int) - 8 < num s
    · have hnx : nextR s = none := by unfold nextR; rw [if_neg (by omega), if_pos hb]
      rw [parse_none hnx]
      have hfin : (acc ++ ([], s).1, (x0.size : Int) - (([] : List ByteArray), s).2.size) = (acc, (at_ : Int)) := by
        simp only [List.append_nil]
        rw [hss]
        congr 1
        omega
      rw [hfin]
      have hj : Ev (fun k => Lf.vitrineref17_Records.j1 k x0 acc (at_ : Int) (num s) true) (acc, (at_ : Int)) := by
        refine Ev.step (f := fun _ => some (acc, (at_ : Int))) (fun k => ?_) (Ev.now _)
        simp only [Lf.vitrineref17_Records.j1]
        rw [if_pos (by trivial)]
      refine Ev.step (f := fun k => (Lf.vitrineref06_Of.f k (x0.extract at_ (at_ + 4))).bind fun t129 => (if t129 < 1 then (Lf.vitrineref17_Records.j1 k x0 acc at_ t129 true) else (if t129 > 1000000 then (Lf.vitrineref17_Records.j1 k x0 acc at_ t129 true) else (Lf.vitrineref17_Records.j1 k x0 acc at_ t129 (decide ((n : Int) - 8 < t129)))))) (fun k => ?_) (Ev.bind hof0 (Ev.congr (fun k => ?_) hj))
      · simp only [Lf.vitrineref17_Records.l0]
        rw [wsub.out, if_pos (by omega), if_pos (by omega), w4.out, if_pos (by omega), if_pos (by omega), wn8.out, Int.toNat_natCast, Int.toNat_natCast]
      · by_cases h0 : num s < 1
        · rw [if_pos h0]
        · rw [if_neg h0]
          by_cases h1 : num s > 1000000
          · rw [if_pos h1]
          · rw [if_neg h1, decide_eq_true (by omega)]
    · obtain ⟨m, hm⟩ : ∃ m : Nat, num s = m := ⟨(num s).toNat, by omega⟩
      have w8m := Lib.hid (show wrap64 (((at_ + 8 : Nat) : Int) + (m : Int)) = ((at_ + (8 + m) : Nat) : Int) by unfold wrap64; omega)
      have e8m : x0.extract (at_ + 8) (at_ + (8 + m)) = s.extract 8 (8 + m) := hx1 8 (8 + m) (by omega)
      have e48 : x0.extract (at_ + 4) (at_ + 8) = s.extract 4 8 := hx1 4 8 (by omega)
      have hz48 : (s.extract 4 8).size = 4 := by rw [ByteArray.size_extract]; omega
      have hof1 : Ev (fun k => Lf.vitrineref06_Of.f k (x0.extract (at_ + 4) (at_ + 8))) (num (s.extract 4 s.size)) := by
        rw [e48, ← hnum 4 (by omega)]
        exact of_ev _ hz48
      have hcr : Ev (fun k => Lf.vitrineref01_Crc.f k (x0.extract (at_ + 8) (at_ + (8 + m)))) ((crc (s.extract 8 (8 + m)) : Nat) : Int) := by
        rw [e8m]
        exact rcrc_ev _ (by rw [ByteArray.size_extract]; omega)
      have hstep : ∀ r, Ev (fun k => (Lf.vitrineref06_Of.f k (x0.extract (at_ + 4) (at_ + 8))).bind fun t130 => (Lf.vitrineref01_Crc.f k (x0.extract (at_ + 8) (at_ + (8 + m)))).bind fun t131 => (if t130 = t131 then (if acc.length < 8796093022208 then (Lf.vitrineref17_Records.l0 k x0 (acc ++ [x0.extract (at_ + 8) (at_ + (8 + m))]) ((at_ + (8 + m) : Nat) : Int)) else none) else (some (acc, (at_ : Int))))) r →
          Ev (fun k => Lf.vitrineref17_Records.l0 k x0 acc (at_ : Int)) r := by
        intro r hr
        have hj : Ev (fun k => Lf.vitrineref17_Records.j1 k x0 acc (at_ : Int) (m : Int) false) r := by
          refine Ev.step (fun k => ?_) hr
          simp only [Lf.vitrineref17_Records.j1]
          rw [if_neg (by simp), w8a.out, if_pos (by omega), w8m.out, if_pos (by omega), if_pos (by omega), w4.out, if_pos (by omega), if_pos (by omega), if_pos (by omega)]
          simp only [Int.toNat_natCast]
        refine Ev.step (f := fun k => (Lf.vitrineref06_Of.f k (x0.extract at_ (at_ + 4))).bind fun t129 => (if t129 < 1 then (Lf.vitrineref17_Records.j1 k x0 acc at_ t129 true) else (if t129 > 1000000 then (Lf.vitrineref17_Records.j1 k x0 acc at_ t129 true) else (Lf.vitrineref17_Records.j1 k x0 acc at_ t129 (decide ((n : Int) - 8 < t129)))))) (fun k => ?_) (Ev.bind hof0 (Ev.congr (fun k => ?_) hj))
        · simp only [Lf.vitrineref17_Records.l0]
          rw [wsub.out, if_pos (by omega), if_pos (by omega), w4.out, if_pos (by omega), if_pos (by omega), wn8.out, Int.toNat_natCast, Int.toNat_natCast]
        · rw [if_neg (by omega), if_neg (by omega), decide_eq_false (by omega), hm]
      have hmt : (num s).toNat = m := by omega
      apply hstep
      by_cases hc : num (s.extract 4 s.size) = (crc (s.extract 8 (8 + m)) : Nat)
      · have hnx : nextR s = some (s.extract 8 (8 + m)) := by unfold nextR; rw [if_neg (by omega), if_neg hb, hmt, if_pos hc]
        have hrz : (s.extract 8 (8 + m)).size = m := by rw [ByteArray.size_extract]; omega
        rw [parse_some hnx, hrz]
        have hrest : s.extract (8 + m) s.size = x0.extract (at_ + (8 + m)) x0.size := by
          have := hx1 (8 + m) n (by omega)
          rw [hn] at this
          rw [hss, this]
        rw [hrest]
        have := ih (n - (8 + m)) (by omega) (at_ + (8 + m)) (acc ++ [s.extract 8 (8 + m)]) (by omega) (by rw [List.length_append, List.length_singleton]; omega)
        rw [List.append_assoc, List.singleton_append] at this
        refine Ev.bind hof1 (Ev.bind hcr (Ev.congr (fun k => ?_) this))
        rw [if_pos hc, if_pos (by omega), e8m]
      · have hnx : nextR s = none := by unfold nextR; rw [if_neg (by omega), if_neg hb, hmt, if_neg hc]
        rw [parse_none hnx]
        have hfin : (acc ++ ([], s).1, (x0.size : Int) - (([] : List ByteArray), s).2.size) = (acc, (at_ : Int)) := by
          simp only [List.append_nil]
          rw [hss]
          congr 1
          omega
        rw [hfin]
        refine Ev.bind hof1 (Ev.bind hcr (Ev.congr (fun k => ?_) (Ev.now _)))
        rw [if_neg hc]

theorem rholds_ev (s : ByteArray) (hs : s.size ≤ 1099511627776) : Ev (fun k => Lf.vitrineref17_holds.f k s) (foundV s) := by
  have hr := rrec_l0 s hs s.size 0 [] (by omega) (by simp)
  have hs0 : s.extract 0 s.size = s := by
    apply ba_ext
    rw [ba_extract, List.drop_zero, List.take_of_length_le (by rw [ba_length]; omega)]
  rw [hs0, List.nil_append] at hr
  have hz := parse_size s.size s (Nat.le_refl _)
  rw [foundV_eq]
  refine Ev.bind (f := fun k bt135 => (if (bt135.1.length : Int) = 0 then (some (([] : List ByteArray), (0 : Int), false)) else (if 0 < (bt135.1.length : Int) then (if ((rdOf ByteArray.empty bt135.1 0).size : Int) = 4 then ((Lf.vitrineref06_Of.f k (rdOf ByteArray.empty bt135.1 0)).bind fun t141 => (if t141 > (wrap64 ((bt135.1.length : Int) - 1)) then (some (([] : List ByteArray), 0, false)) else (if 1 ≤ (bt135.1.length : Int) then (some ((bt135.1.drop (1 : Int).toNat), bt135.2, true)) else (none)))) else (some (([] : List ByteArray), 0, false))) else (none)))) hr ?_
  cases hp : (parse s).1 with
  | nil => exact Ev.now _
  | cons h t =>
    have e0 : rdOf ByteArray.empty (h :: t) 0 = h := rfl
    have hl : ((h :: t).length : Int) = t.length + 1 := by simp
    have hlt : 9 * (h :: t).length ≤ s.size := by rw [← hp]; omega
    simp only [List.length_cons] at hlt
    have hw := Lib.hid (show wrap64 ((t.length : Int) + 1 - 1) = (t.length : Int) by unfold wrap64; omega)
    simp only [e0, hl, foundW_cons]
    by_cases h4 : h.size = 4
    · refine Ev.congr (f := fun k => (Lf.vitrineref06_Of.f k h).bind fun t141 => (if t141 > (t.length : Int) then (some (([] : List ByteArray), (0 : Int), false)) else (some (t, (s.size : Int) - (parse s).2.size, true)))) (fun k => ?_) (Ev.bind (of_ev h h4) (Ev.congr (fun k => ?_) (Ev.now _)))
      · rw [if_neg (by omega), if_pos (by omega), if_pos (by omega), hw.out]
        congr 1
        funext q
        by_cases hq : q > (t.length : Int)
        · rw [if_pos hq, if_pos hq]
        · rw [if_neg hq, if_neg hq, if_pos (by omega)]
          rfl
      · by_cases hq : num h ≤ t.length
        · rw [if_neg (by omega), if_pos ⟨h4, hq⟩]
        · rw [if_pos (by omega), if_neg (fun e => hq e.2)]
    · refine Ev.congr (fun k => ?_) (Ev.now _)
      rw [if_neg (by omega), if_pos (by omega), if_neg (by omega), if_neg (fun e => h4 e.1)]

end Go.Proofs.Ytljfagagopaidaa
