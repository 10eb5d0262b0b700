/-
  DERIVED: THE SHELF's CONTRACTS AT THIS DUMP, IN PLAIN WORDS (tools/lay-plain.mjs out of 'YtljfagagopaidaaLaySrc.lean', which tools/lay-shelf.mjs wrote): THE SAME DECLARATIONS UNDER THE SAME NAMES: 'import', 'namespace', 'open', 'def', 'theorem' AND NOTHING ELSE: no command of the shelf's: FOR A HAND-IN. Each laying: the table of numbers ('.._ren') and one theorem, a field a fact of the dump's own or the kernel's comparison; each contract: ONE APPLICATION.
-/
import Derived.Shelf.Slices.Reverse
import Derived.Ground.Names2Prog
import Derived.Shelf.SlIterI.Nil
import Derived.Ground.GgzProg
import Derived.Ground.SlgmProg
import Derived.Shelf.SortM.Plain
import Derived.Shelf.SortM.SortNone
import Derived.Test.YtljfagagopaidaaProg
namespace Go.Proofs
open Go.Shelf
def Try.lays112_ren : Go.Shelf.Ren := ⟨fun | 112 => 77 | n => n, fun | 28 => 41 | 3 => 3 | 4 => 4 | 0 => 0 | n => n, fun | n => n⟩
theorem Try.lays112 : Go.Proofs.Lays.n112 Try.prog Try.lays112_ren := {
  mixed := by kernel_rfl
  f112 := Try.func77.trans (congrArg some (by kernel_rfl))
  t0 := Try.underlying0
  a0 := Try.isAgg0
  z0 := Try.sizeOf0
  v0 := Try.zeroValue0
  t3 := Try.underlying3
  a3 := Try.isAgg3
  z3 := Try.sizeOf3
  v3 := Try.zeroValue3
  t4 := Try.underlying4
  a4 := Try.isAgg4
  z4 := Try.sizeOf4
  v4 := Try.zeroValue4
  t28 := Try.underlying41
  a28 := Try.isAgg41
  z28 := Try.sizeOf41
  v28 := Try.zeroValue41 }
open Go.RowKit Go.Lib Go.Sort in
/-- slices.Reverse at []int, over an array: Go's loop from the two ends inward is walked; it makes 'Sort.reverseLoop 0 (len - 1)', which is 'Array.reverse' (Derived/Lib/SlicesMore.lean). (LAID: no walk: one application.) -/
theorem Try.slices_Reverse_int_arr (blk off cap : Nat) (d : Array Int) (w : World) (hH : Holds encI w blk off d) (hsz : d.size ≤ 9223372036854775807) :
    Calls Try.prog 77 #[.slice (some ⟨blk, off, none⟩) d.size cap] w fun e w' => e = .returned (.tuple #[]) ∧ ∃ n, w' = putRow encI (Sort.ahead w n) blk off d.reverse := Any.slices_Reverse_int_arr Try.lays112 blk off cap d w hH hsz
open Go.RowKit Go.Lib Go.Sort in
/-- slices.Reverse at []int: "Reverse reverses the elements of the slice in place.": THE SLICE's CELLS HOLD 'zs.reverse' BEHIND THE CALL; all else is as it was, but for the count of draws (the exchange 's[i], s[j] = s[j], s[i]' draws its order, once a round). IN THE WORDS OF slices.Sort's CONTRACT: 'Holds': the cells hold zs and none is frozen; 'putRow': the world with those cells holding another array. A slice of length 0 that is not nil is among them ('zs = []'); nil: '.._nil'. (LAID: no walk: one application.) -/
theorem Try.slices_Reverse_int (blk off cap : Nat) (zs : List Int) (w : World) (hH : Holds (Value.int .i64) w blk off zs.toArray) (hsz : zs.length ≤ 9223372036854775807) :
    Calls Try.prog 77 #[.slice (some ⟨blk, off, none⟩) zs.length cap] w fun e w' => e = .returned (.tuple #[]) ∧ ∃ n, w' = putRow (Value.int .i64) (Sort.ahead w n) blk off zs.reverse.toArray := Any.slices_Reverse_int Try.lays112 blk off cap zs w hH hsz
open Go.RowKit Go.Lib Go.Sort in
/-- The same at a slice of length 0, a nil one too: nothing is read, nothing written, nothing drawn. (LAID: no walk: one application.) -/
theorem Try.slices_Reverse_int_empty (a : Option Addr) (cap : Nat) (w : World) :
    Calls Try.prog 77 #[.slice a 0 cap] w fun e w' => e = .returned (.tuple #[]) ∧ w' = w := Any.slices_Reverse_int_empty Try.lays112 a cap w
def Try.laysSlM5_f75_ren : Go.Shelf.Ren := ⟨fun | 5 => 75 | 8 => 89 | 7 => 88 | 19 => 103 | 20 => 104 | 10 => 94 | 11 => 95 | 12 => 96 | 13 => 97 | 14 => 98 | 15 => 99 | 16 => 100 | 17 => 101 | 18 => 102 | 30 => 106 | 31 => 107 | 32 => 108 | 33 => 109 | 34 => 110 | 35 => 111 | 40 => 112 | n => n, fun | 23 => 41 | 25 => 3 | 3 => 3 | 32 => 116 | 22 => 41 | 0 => 0 | 44 => 134 | 46 => 136 | 4 => 4 | 36 => 128 | 35 => 127 | 41 => 84 | 5 => 5 | 9 => 9 | 53 => 139 | 57 => 143 | 63 => 145 | 64 => 146 | n => n, fun | n => n⟩
theorem Try.laysSlM5_f75 : Go.Proofs.SlLaysM.n5 Try.prog Try.laysSlM5_f75_ren := {
  mixed := by kernel_rfl
  f5 := ⟨Try.f75.name, by decide, Try.func75.trans (congrArg some (by kernel_rfl))⟩
  f7 := ⟨Try.f88.name, by decide, Try.func88.trans (congrArg some (by kernel_rfl))⟩
  f8 := Try.func89.trans (congrArg some (by kernel_rfl))
  f10 := ⟨Try.f94.name, by decide, Try.func94.trans (congrArg some (by kernel_rfl))⟩
  f11 := ⟨Try.f95.name, by decide, Try.func95.trans (congrArg some (by kernel_rfl))⟩
  f12 := ⟨Try.f96.name, by decide, Try.func96.trans (congrArg some (by kernel_rfl))⟩
  f13 := ⟨Try.f97.name, by decide, Try.func97.trans (congrArg some (by kernel_rfl))⟩
  f14 := ⟨Try.f98.name, by decide, Try.func98.trans (congrArg some (by kernel_rfl))⟩
  f15 := ⟨Try.f99.name, by decide, Try.func99.trans (congrArg some (by kernel_rfl))⟩
  f16 := ⟨Try.f100.name, by decide, Try.func100.trans (congrArg some (by kernel_rfl))⟩
  f17 := ⟨Try.f101.name, by decide, Try.func101.trans (congrArg some (by kernel_rfl))⟩
  f18 := ⟨Try.f102.name, by decide, Try.func102.trans (congrArg some (by kernel_rfl))⟩
  f19 := Try.func103.trans (congrArg some (by kernel_rfl))
  f20 := Try.func104.trans (congrArg some (by kernel_rfl))
  f30 := ⟨Try.f106.name, by decide, Try.func106.trans (congrArg some (by kernel_rfl))⟩
  f31 := Try.func107.trans (congrArg some (by kernel_rfl))
  f32 := Try.func108.trans (congrArg some (by kernel_rfl))
  f33 := ⟨Try.f109.name, by decide, Try.func109.trans (congrArg some (by kernel_rfl))⟩
  f34 := ⟨Try.f110.name, by decide, Try.func110.trans (congrArg some (by kernel_rfl))⟩
  f35 := ⟨Try.f111.name, by decide, Try.func111.trans (congrArg some (by kernel_rfl))⟩
  f40 := ⟨Try.f112.name, by decide, Try.func112.trans (congrArg some (by kernel_rfl))⟩
  t0 := Try.underlying0
  a0 := Try.isAgg0
  z0 := Try.sizeOf0
  v0 := Try.zeroValue0
  t3 := Try.underlying3
  a3 := Try.isAgg3
  z3 := Try.sizeOf3
  v3 := Try.zeroValue3
  t4 := Try.underlying4
  a4 := Try.isAgg4
  z4 := Try.sizeOf4
  v4 := Try.zeroValue4
  t5 := Try.underlying5
  a5 := Try.isAgg5
  z5 := Try.sizeOf5
  v5 := Try.zeroValue5
  t9 := Try.underlying9
  a9 := Try.isAgg9
  z9 := Try.sizeOf9
  v9 := Try.zeroValue9
  t22 := Try.underlying41
  a22 := Try.isAgg41
  z22 := Try.sizeOf41
  v22 := Try.zeroValue41
  t23 := Try.underlying41
  a23 := Try.isAgg41
  z23 := Try.sizeOf41
  v23 := Try.zeroValue41
  t25 := Try.underlying3
  a25 := Try.isAgg3
  z25 := Try.sizeOf3
  v25 := Try.zeroValue3
  t32 := Try.underlying116
  a32 := Try.isAgg116
  z32 := Try.sizeOf116
  v32 := Try.zeroValue116
  t35 := Try.underlying127
  a35 := Try.isAgg127
  z35 := Try.sizeOf127
  v35 := Try.zeroValue127
  t36 := Try.underlying128
  a36 := Try.isAgg128
  z36 := Try.sizeOf128
  v36 := Try.zeroValue128
  t41 := Try.underlying84
  a41 := Try.isAgg84
  z41 := Try.sizeOf84
  v41 := Try.zeroValue84
  t44 := Try.underlying134
  a44 := Try.isAgg134
  z44 := Try.sizeOf134
  v44 := Try.zeroValue134
  t46 := Try.underlying136
  a46 := Try.isAgg136
  z46 := Try.sizeOf136
  v46 := Try.zeroValue136
  t53 := Try.underlying139
  a53 := Try.isAgg139
  z53 := Try.sizeOf139
  v53 := Try.zeroValue139
  t57 := Try.underlying143
  a57 := Try.isAgg143
  z57 := Try.sizeOf143
  v57 := Try.zeroValue143
  t63 := Try.underlying145
  a63 := Try.isAgg145
  z63 := Try.sizeOf145
  v63 := Try.zeroValue145
  t64 := Try.underlying146
  a64 := Try.isAgg146
  z64 := Try.sizeOf146
  v64 := Try.zeroValue146 }
open Go.Sort Go.RowKit in
theorem Try.slices_Sort_int (blk off cap : Nat) (zs : List Int) (w : World) (hH : Holds (Value.int .i64) w blk off zs.toArray) (hblk : blk < w.heap.size) (hsz : zs.length < 4611686018427387904) :
    Calls Try.prog 75 #[.slice (some ⟨blk, off, none⟩) zs.length cap] w fun e w' =>
      e = .returned (.tuple #[]) ∧ ∃ n os, w' = grow (putRow (Value.int .i64) (Sort.ahead w n) blk off (zs.mergeSort fun x y => decide (x ≤ y)).toArray) os := AnyM.slices_Sort_int Try.laysSlM5_f75 blk off cap zs w hH hblk hsz
open Go.RowKit Go.Sort in
/-- .. and plain. (LAID AT THE INSTANCE 'slices.Sort[[]int,int]': no walk: one application.) -/
theorem Try.slices_Sort_int_none (p : Option Addr) (cap : Nat) (w : World) :
    Calls Try.prog 75 #[.slice p 0 cap] w fun e w' => e = .returned (.tuple #[]) ∧ w' = w := AnyM.slices_Sort_int_none Try.laysSlM5_f75 p cap w
def Try.keys61_ren : Go.Shelf.Ren := ⟨fun | 7 => 61 | 10 => 76 | n => n, fun | 23 => 73 | 26 => 3 | 3 => 77 | 28 => 90 | 0 => 0 | 27 => 89 | 33 => 51 | 4 => 4 | n => n, fun | n => n⟩
theorem Try.keys61 : Go.Proofs.SlLaysZI.n7 Try.prog Try.keys61_ren := {
  mixed := by kernel_rfl
  f7 := ⟨Try.f61.name, by decide, Try.func61.trans (congrArg some (by kernel_rfl))⟩
  f10 := ⟨Try.f76.name, by decide, Try.func76.trans (congrArg some (by kernel_rfl))⟩
  t0 := Try.underlying0
  a0 := Try.isAgg0
  z0 := Try.sizeOf0
  v0 := Try.zeroValue0
  t4 := Try.underlying4
  a4 := Try.isAgg4
  z4 := Try.sizeOf4
  v4 := Try.zeroValue4
  t23 := Try.underlying73
  a23 := Try.isAgg73
  z23 := Try.sizeOf73
  v23 := Try.zeroValue73
  t26 := Try.underlying3
  a26 := Try.isAgg3
  z26 := Try.sizeOf3
  v26 := Try.zeroValue3
  t27 := Try.underlying89
  a27 := Try.isAgg89
  z27 := Try.sizeOf89
  v27 := Try.zeroValue89
  t28 := Try.underlying90
  a28 := Try.isAgg90
  z28 := Try.sizeOf90
  v28 := Try.zeroValue90
  t33 := Try.underlying51
  a33 := Try.isAgg51
  z33 := Try.sizeOf51
  v33 := Try.zeroValue51 }
def Try.sorted60_ren : Go.Shelf.Ren := ⟨fun | 6 => 60 | 8 => 74 | 9 => 75 | 11 => 87 | 13 => 89 | 12 => 88 | 23 => 103 | 24 => 104 | 14 => 94 | 15 => 95 | 16 => 96 | 17 => 97 | 18 => 98 | 19 => 99 | 20 => 100 | 21 => 101 | 22 => 102 | 25 => 106 | 26 => 107 | 27 => 108 | 28 => 109 | 29 => 110 | 30 => 111 | 31 => 112 | n => n, fun | 26 => 3 | 28 => 90 | 24 => 41 | 0 => 0 | 3 => 3 | 37 => 116 | 48 => 134 | 50 => 136 | 4 => 4 | 40 => 128 | 39 => 127 | 45 => 84 | 5 => 5 | 9 => 9 | 51 => 139 | 55 => 143 | 57 => 145 | 58 => 146 | 33 => 51 | n => n, fun | n => n⟩
theorem Try.sorted60 : Go.Proofs.SlLaysZI.n6 Try.prog Try.sorted60_ren := {
  mixed := by kernel_rfl
  f6 := ⟨Try.f60.name, by decide, Try.func60.trans (congrArg some (by kernel_rfl))⟩
  f8 := ⟨Try.f74.name, by decide, Try.func74.trans (congrArg some (by kernel_rfl))⟩
  f11 := ⟨Try.f87.name, by decide, Try.func87.trans (congrArg some (by kernel_rfl))⟩
  t0 := Try.underlying0
  a0 := Try.isAgg0
  z0 := Try.sizeOf0
  v0 := Try.zeroValue0
  t24 := Try.underlying41
  a24 := Try.isAgg41
  z24 := Try.sizeOf41
  v24 := Try.zeroValue41
  t26 := Try.underlying3
  a26 := Try.isAgg3
  z26 := Try.sizeOf3
  v26 := Try.zeroValue3
  t28 := Try.underlying90
  a28 := Try.isAgg90
  z28 := Try.sizeOf90
  v28 := Try.zeroValue90
  i26 := by kernel_rfl }
end Go.Proofs
