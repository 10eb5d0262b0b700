/- DiskPlays: the two disks answer alike, call by call. -/
import Derived.Test.YtljfagagopaidaaPlm
import Derived.Test.YtljfagagopaidaaOpn
namespace Go.Proofs.Ytljfagagopaidaa
open Go.RowKit Go.Proofs.YtljfagagopaidaaW.PrintWords
set_option linter.unusedSimpArgs false
set_option linter.unusedVariables false
set_option maxRecDepth 100000

/-- A call that the law makes. -/
abbrev OpT := Int × Int × Int × Int × List Int
def kOp : Kd OpT := Kd.pair (Kd.int .i64) (Kd.pair (Kd.int .i64) (Kd.pair (Kd.int .i64) (Kd.pair (Kd.int .i64) (Kd.slice 3 (Kd.int .i64)))))
def zOp : OpT := (0, 0, 0, 0, [])

theorem kOp_open {w : World} {x : OpT} {cs : List Value} (h : kOp.K w x cs) : ∃ A c, cs = [.int .i64 x.1, .int .i64 x.2.1, .int .i64 x.2.2.1, .int .i64 x.2.2.2.1, .slice A x.2.2.2.2.length c] ∧ x.2.2.2.2.length ≤ c ∧ (Kd.int .i64).C w A x.2.2.2.2.length x.2.2.2.2 := by
  obtain ⟨c0, r0, rfl, h0, c1, r1, rfl, h1, c2, r2, rfl, h2, c3, r3, rfl, h3, A, c, rfl, hl, hC⟩ := h
  cases h0; cases h1; cases h2; cases h3
  exact ⟨A, c, rfl, hl, hC⟩

theorem at_op {w : World} {A : Option Addr} {n : Nat} {xs : List OpT} (h : Kd.C kOp w A n xs) (i : Nat) (hi : i < n) :
    ∃ ad x K c, A = some ad ∧ xs[i]? = some x ∧ x.2.2.2.2.length ≤ c ∧ (Kd.int .i64).C w K x.2.2.2.2.length x.2.2.2.2 ∧ w.cell? (ad.add (i * 5)) = some (.int .i64 x.1) ∧ w.cell? (ad.add (i * 5 + 1)) = some (.int .i64 x.2.1) ∧ w.cell? (ad.add (i * 5 + 2)) = some (.int .i64 x.2.2.1) ∧
      w.cell? (ad.add (i * 5 + 3)) = some (.int .i64 x.2.2.2.1) ∧ w.cell? (ad.add (i * 5 + 4)) = some (.slice K x.2.2.2.2.length c) := by
  obtain ⟨ad, rfl, hc⟩ := h.2.2 (by omega)
  have hl : i < xs.length := by have := h.1; omega
  obtain ⟨c, hs, hK, hcell⟩ := hc i _ (List.getElem?_eq_getElem hl)
  obtain ⟨K, c', rfl, hlc, hC⟩ := kOp_open hK
  exact ⟨ad, _, K, c', rfl, List.getElem?_eq_getElem hl, hlc, hC, hcell 0 _ rfl, hcell 1 _ rfl, hcell 2 _ rfl, hcell 3 _ rfl, hcell 4 _ rfl⟩

theorem load_op {w : World} {ad : Addr} {n : Nat} {v0 v1 v2 v3 v4 : Value} (h0 : w.cell? (ad.add n) = some v0) (h1 : w.cell? (ad.add (n + 1)) = some v1) (h2 : w.cell? (ad.add (n + 2)) = some v2) (h3 : w.cell? (ad.add (n + 3)) = some v3) (h4 : w.cell? (ad.add (n + 4)) = some v4) :
    (Instr.loadAt 43 (.pointer (some (ad.add n)))).run Try.prog w = .ok (.agg #[v0, v1, v2, v3, v4]) w := by
  have hl : (loadCells (ad.add n) 5).run Try.prog w = .ok #[v0, v1, v2, v3, v4] w := by
    refine run_loadCells_list (P := Try.prog) w (ad.add n) [v0, v1, v2, v3, v4] (fun j v hv => ?_)
    rw [Addr.add_add]
    match j, hv with
    | 0, hv => simp at hv; subst hv; exact h0
    | 1, hv => simp at hv; subst hv; exact h1
    | 2, hv => simp at hv; subst hv; exact h2
    | 3, hv => simp at hv; subst hv; exact h3
    | 4, hv => simp at hv; subst hv; exact h4
    | j + 5, hv => simp at hv
  have hi : (Try.prog.info? 43).map (·.size) = some 5 := by kernel_rfl
  cases hq : Try.prog.info? 43 with
  | none => simp [hq] at hi
  | some i =>
    have hs : i.size = 5 := by simpa [hq] using hi
    have hagg : (isAgg 43).run Try.prog w = .ok true w := by
      unfold isAgg
      rw [Sem.run_bind, run_underlying Try.underlying43 w]
      rfl
    simp [Instr.loadAt, Instr.sureAddr, loadVar, Sem.run_bind, hagg, sizeOf, typeInfo, hq, hs, hl]

theorem wp_loadA {P : Program} {ops : Array Oper} {rest : List Oper} {op : Oper} {a : Act} {w : World} {Q : Exit → Act → World → Prop} (hgd : op.guard = none) (ty : TypeId) (x : Operand) (ho : op.op = .load ty x) {p v : Value} (hx : a.eval x = p) (hr : (Instr.loadAt ty p).run P w = .ok v w)
    (h : wpList P ops Q rest (a.put op.dst v) w) : wpList P ops Q (op :: rest) a w := by
  refine wpList_plain hgd fun K hK => ?_
  unfold Oper.wp execOp
  simp only [ho, hx, Sem.run_bind, Sem.run_pure, Result.andThen_ok, hr]
  exact hK _ _ h

theorem box_disk {w w2 : World} {g m bx : Nat} {d : Dk} {cs : Array Value} {fr : Nat × Nat} (h : DiskAt w g m d) (hb : w.heap[bx]? = some (.cells cs 43 fr)) (k : Fr (Two g m) w w2) : w2.heap[bx]? = some (.cells cs 43 fr) := by
  refine k.keep hb ?_
  rintro (rfl | rfl)
  · rw [h.blk] at hb
    injection hb with hb
    injection hb with _ h2
    cases h2
  · obtain ⟨es, clock, hm, _⟩ := h.map
    rw [hm] at hb
    cases hb
theorem box_ref {w w2 : World} {base bx gr : Nat} {r : Dk} {cs : Array Value} {fr : Nat × Nat} (hb : w.heap[bx]? = some (.cells cs 43 fr)) (k : RefTo w w2 base gr r) : w2.heap[bx]? = some (.cells cs 43 fr) := by
  obtain ⟨_, _, _, _, k⟩ := k
  refine k.keep hb ?_
  rintro ⟨_, cs2, t, fr2, hb2, ht⟩
  rw [hb] at hb2
  injection hb2 with hb2
  injection hb2 with _ h2
  rcases ht with rfl | rfl <;> cases h2

theorem good_new {limit : Int} (h1 : 1 ≤ limit) (h2 : limit ≤ 16777216) : Good (Dk.new limit) := by
  refine ⟨?_, h2, Int.le_refl _, show (0 : Int) ≤ 9223372036854775807 by decide, ?_, ?_, List.Pairwise.nil, ?_⟩
  · show 0 ≤ limit; omega
  · show (0 : Int) ≤ limit; omega
  · intro x hx; exact absurd hx (by simp [Dk.new])
  · intro x hx; exact absurd hx (by simp [Dk.new])

set_option maxHeartbeats 4000000 in
theorem diskPlays_calls (limit : Int) (A : Option Addr) (c : Nat) (ops : List OpT) (w : World) (hl : -9223372036854775808 ≤ limit ∧ limit ≤ 9223372036854775807) (hC : Kd.C kOp w A ops.length ops) (hN : ∀ x ∈ ops, (-9223372036854775808 ≤ x.2.2.1 ∧ x.2.2.1 ≤ 9223372036854775807) ∧ ∀ k ∈ x.2.2.2.2, -9223372036854775808 ≤ k ∧ k ≤ 9223372036854775807) :
    Calls Try.prog 5 #[.int .i64 limit, .slice A ops.length c] w fun e w' => e = .returned (.bool true) ∧ Below w.heap.size w w' := by
  have hm0 := hC.2.1
  by_cases hlim : 1 ≤ limit ∧ limit ≤ 16777216
  · go_enter Try.func5, Try.ntmps5
    go_wp2_with fail
    refine (new_calls _ limit hlim.1 hlim.2).mono ?_
    rintro e w0 ⟨rfl, h0, k0, hz⟩
    obtain ⟨g, hg⟩ : ∃ g, g = w.heap.size + 1 := ⟨_, rfl⟩
    obtain ⟨m, hm⟩ : ∃ m, m = w.heap.size := ⟨_, rfl⟩
    rw [← hg] at h0 ⊢
    rw [← hm] at h0
    have hge : w.heap.size ≤ g ∧ w.heap.size ≤ m := by omega
    have hsz : w.heap.size ≤ w0.heap.size := k0.size
    clear hg hm hz
    go_wp2_with fail
    refine (rnew_calls w0 limit hlim.1 hlim.2 w.heap.size hsz).mono ?_
    rintro e w1 ⟨rfl, hr, k1⟩
    obtain ⟨gr, hgr⟩ : ∃ gr, gr = w0.heap.size := ⟨_, rfl⟩
    rw [← hgr] at hr ⊢
    have mid0 : Mid w w1 g m gr (Dk.new limit) (Dk.new limit) := ⟨h0.fr k1 id id, ⟨_, hr⟩, k0.trans k1, hge⟩
    have good0 : Good (Dk.new limit) := good_new hlim.1 hlim.2
    clear hr h0 k0 k1 hge hsz hgr
    go_wp2_with fail
    go_loopg [9] 200 (fun kq v9 wr => ∃ (i : Nat) (d r : Dk), kq + i = 200 ∧ v9 = .int .i64 i ∧ Mid w wr g m gr d r ∧ Alike d r ∧ Good d)
    case atStart => exact ⟨0, _, _, rfl, rfl, mid0, Alike.refl _, good0⟩
    case round =>
      obtain ⟨i, d, r, hi, rfl, mid, al, gd⟩ := hrel
      by_cases hgo : i < ops.length ∧ i < 200
      · have hg1 : (i : Int) < (ops.length : Int) := by omega
        have hg2 : (i : Int) < 200 := by omega
        obtain ⟨ad, x, K, c2, rfl, hx, hlc, hCk, x0, x1, x2, x3, x4⟩ := at_op hC i hgo.1
        have y0 := mid.fr.cell x0 id
        have y1 := mid.fr.cell x1 id
        have y2 := mid.fr.cell x2 id
        have y3 := mid.fr.cell x3 id
        have y4 := mid.fr.cell x4 id
        obtain ⟨hNb, hkb⟩ := hN x (List.mem_of_getElem? hx)
        obtain ⟨ask, file, N, byte, keeps⟩ := x
        clear x0 x1 x2 x3 x4
        have hload := load_op y0 y1 y2 y3 y4
        clear y0 y1 y2 y3 y4
        have Hload := Lib.hid hload; clear hload
        go_upto_block 2 with (refine wp_loadA rfl 43 _ rfl rfl Hload.out ?_)
        obtain ⟨bx, hbx⟩ : ∃ bx, bx = wr.heap.size := ⟨_, rfl⟩
        have hb := heap_alloc_new wr (.cells #[.int .i64 ask, .int .i64 file, .int .i64 N, .int .i64 byte, .slice K keeps.length c2] 43)
        have midx := mid.keep ((Fr.refl (fun _ => False) wr).alloc (.cells #[.int .i64 ask, .int .i64 file, .int .i64 N, .int .i64 byte, .slice K keeps.length c2] 43))
        rw [← hbx] at hb ⊢
        clear hbx
        go_cut [11, 12] (fun v11 v12 wc => ∃ (d2 r2 : Dk) (a : Int), v11 = .int .i64 a ∧ v12 = .int .i64 a ∧ Mid w wc g m gr d2 r2 ∧ Alike d2 r2 ∧ Good d2 ∧ wc.heap[bx]? = some (.cells #[.int .i64 ask, .int .i64 file, .int .i64 N, .int .i64 byte, .slice K keeps.length c2] 43 (0, 0)))
        case first =>
          have z0 : (wr.alloc (.cells #[.int .i64 ask, .int .i64 file, .int .i64 N, .int .i64 byte, .slice K keeps.length c2] 43)).cell? ⟨bx, 0, none⟩ = some (.int .i64 ask) := (cell_blk hb 0).trans rfl
          have z1 : (wr.alloc (.cells #[.int .i64 ask, .int .i64 file, .int .i64 N, .int .i64 byte, .slice K keeps.length c2] 43)).cell? ⟨bx, 1, none⟩ = some (.int .i64 file) := (cell_blk hb 1).trans rfl
          have z2 : (wr.alloc (.cells #[.int .i64 ask, .int .i64 file, .int .i64 N, .int .i64 byte, .slice K keeps.length c2] 43)).cell? ⟨bx, 2, none⟩ = some (.int .i64 N) := (cell_blk hb 2).trans rfl
          have z3 : (wr.alloc (.cells #[.int .i64 ask, .int .i64 file, .int .i64 N, .int .i64 byte, .slice K keeps.length c2] 43)).cell? ⟨bx, 3, none⟩ = some (.int .i64 byte) := (cell_blk hb 3).trans rfl
          have z4 : (wr.alloc (.cells #[.int .i64 ask, .int .i64 file, .int .i64 N, .int .i64 byte, .slice K keeps.length c2] 43)).cell? ⟨bx, 4, none⟩ = some (.slice K keeps.length c2) := (cell_blk hb 4).trans rfl
          have hmany := midx.many al
          have hok := gd.ok hmany.1
          have hokr := (gd.alike al).ok hmany.2
          by_cases a1 : ask = 1
          · subst a1
            go_wp2_with fail
            refine (sync_calls midx.disk hok file).mono ?_
            rintro e w2 ⟨rfl, h2, k2⟩
            have mid2 := midx.onDisk h2 k2
            have hb2 : w2.heap[bx]? = some (.cells #[.int .i64 1, .int .i64 file, .int .i64 N, .int .i64 byte, .slice K keeps.length c2] 43 (0, 0)) := box_disk midx.disk hb k2
            have q1 : w2.cell? ⟨bx, 1, none⟩ = some (.int .i64 file) := (cell_blk hb2 1).trans rfl
            have q2 : w2.cell? ⟨bx, 2, none⟩ = some (.int .i64 N) := (cell_blk hb2 2).trans rfl
            have q4 : w2.cell? ⟨bx, 4, none⟩ = some (.slice K keeps.length c2) := (cell_blk hb2 4).trans rfl
            go_wp2_with fail
            obtain ⟨v, hr⟩ := mid2.ref
            refine (rsync_calls hr hokr file).mono ?_
            rintro e w3 ⟨rfl, h3⟩
            obtain ⟨r3, mid3, al3⟩ := mid2.onRef h3
            go_wp2
            go_meet
            case rel => exact ⟨_, r3, d.changeE file, rfl, by rw [al.changeE], mid3, (al.sync midx.apart file).trans al3, gd.sync file, box_ref hb2 h3⟩
          by_cases a2 : ask = 2
          · subst a2
            go_wp2_with fail
            refine (cut_calls midx.disk hok file N).mono ?_
            rintro e w2 ⟨rfl, h2, k2⟩
            have mid2 := midx.onDisk h2 k2
            have hb2 : w2.heap[bx]? = some (.cells #[.int .i64 2, .int .i64 file, .int .i64 N, .int .i64 byte, .slice K keeps.length c2] 43 (0, 0)) := box_disk midx.disk hb k2
            have q1 : w2.cell? ⟨bx, 1, none⟩ = some (.int .i64 file) := (cell_blk hb2 1).trans rfl
            have q2 : w2.cell? ⟨bx, 2, none⟩ = some (.int .i64 N) := (cell_blk hb2 2).trans rfl
            have q4 : w2.cell? ⟨bx, 4, none⟩ = some (.slice K keeps.length c2) := (cell_blk hb2 4).trans rfl
            go_wp2_with fail
            obtain ⟨v, hr⟩ := mid2.ref
            refine (rcut_calls hr hokr file N).mono ?_
            rintro e w3 ⟨rfl, h3⟩
            obtain ⟨r3, mid3, al3⟩ := mid2.onRef h3
            go_wp2
            go_meet
            case rel => exact ⟨_, r3, d.cutE file N, rfl, by rw [al.cutE midx.apart], mid3, (al.cut midx.apart file N).trans al3, gd.cut file N, box_ref hb2 h3⟩
          by_cases a3 : ask = 3
          · subst a3
            go_wp2_with fail
            refine (drop_calls midx.disk hok file).mono ?_
            rintro e w2 ⟨rfl, h2, k2⟩
            have mid2 := midx.onDisk h2 k2
            have hb2 : w2.heap[bx]? = some (.cells #[.int .i64 3, .int .i64 file, .int .i64 N, .int .i64 byte, .slice K keeps.length c2] 43 (0, 0)) := box_disk midx.disk hb k2
            have q1 : w2.cell? ⟨bx, 1, none⟩ = some (.int .i64 file) := (cell_blk hb2 1).trans rfl
            have q2 : w2.cell? ⟨bx, 2, none⟩ = some (.int .i64 N) := (cell_blk hb2 2).trans rfl
            have q4 : w2.cell? ⟨bx, 4, none⟩ = some (.slice K keeps.length c2) := (cell_blk hb2 4).trans rfl
            go_wp2_with fail
            obtain ⟨v, hr⟩ := mid2.ref
            refine (rdrop_calls hr hokr mid2.fr.size file).mono ?_
            rintro e w3 ⟨rfl, h3⟩
            obtain ⟨r3, mid3, al3⟩ := mid2.onRef h3
            go_wp2
            go_meet
            case rel => exact ⟨_, r3, d.changeE file, rfl, by rw [al.changeE], mid3, (al.dropped midx.apart file).trans al3, gd.dropped file, box_ref hb2 h3⟩
          by_cases a5 : ask = 5
          · subst a5
            go_wp2_with fail
            refine (arm_calls midx.disk N).mono ?_
            rintro e w2 ⟨rfl, h2, k2⟩
            have mid2 := midx.onDisk h2 k2
            have hb2 : w2.heap[bx]? = some (.cells #[.int .i64 5, .int .i64 file, .int .i64 N, .int .i64 byte, .slice K keeps.length c2] 43 (0, 0)) := box_disk midx.disk hb k2
            have q1 : w2.cell? ⟨bx, 1, none⟩ = some (.int .i64 file) := (cell_blk hb2 1).trans rfl
            have q2 : w2.cell? ⟨bx, 2, none⟩ = some (.int .i64 N) := (cell_blk hb2 2).trans rfl
            have q4 : w2.cell? ⟨bx, 4, none⟩ = some (.slice K keeps.length c2) := (cell_blk hb2 4).trans rfl
            go_wp2_with fail
            obtain ⟨v, hr⟩ := mid2.ref
            refine (rarm_calls hr N).mono ?_
            rintro e w3 ⟨rfl, h3', k3⟩
            have h3 : RefTo w2 w3 w.heap.size gr (r.arm N) := ⟨_, _, h3', Alike.refl _, k3⟩
            obtain ⟨r3, mid3, al3⟩ := mid2.onRef h3
            go_wp2
            go_meet
            case rel => exact ⟨_, r3, 0, rfl, rfl, mid3, (al.arm N).trans al3, gd.arm hNb.2, box_ref hb2 h3⟩
          by_cases a6 : ask = 6
          · subst a6
            have hKx := C_fr (flat_int _) hCk midx.fr (fun _ _ => id)
            have hKl : keeps ≠ [] → ∀ a, K = some a → a.block < w.heap.size := by
              intro hne a ha
              obtain ⟨ad2, e2, hc2⟩ := hCk.2.2 (List.length_pos_iff.2 hne)
              rw [ha] at e2
              injection e2 with e2
              subst e2
              obtain ⟨cs, hcl, hK, hcell⟩ := hc2 0 _ (List.getElem?_eq_getElem (List.length_pos_iff.2 hne))
              cases hK
              have := World.block_lt_of_cell? _ _ (hcell 0 _ rfl)
              rwa [block_add] at this
            have hKf : keeps ≠ [] → ∀ a, K = some a → a.block ≠ g ∧ a.block ≠ m := fun hne a ha => by
              have h1 := hKl hne a ha
              have h2 := midx.ge
              exact ⟨by omega, by omega⟩
            go_wp2_with fail
            refine (crash_calls0 midx.disk hok gd.sound K c2 keeps hlc hKx hKf hkb).mono ?_
            rintro e w2 ⟨rfl, h2, k2⟩
            have mid2 := midx.onDisk h2 k2
            have hb2 : w2.heap[bx]? = some (.cells #[.int .i64 6, .int .i64 file, .int .i64 N, .int .i64 byte, .slice K keeps.length c2] 43 (0, 0)) := box_disk midx.disk hb k2
            have q1 : w2.cell? ⟨bx, 1, none⟩ = some (.int .i64 file) := (cell_blk hb2 1).trans rfl
            have q2 : w2.cell? ⟨bx, 2, none⟩ = some (.int .i64 N) := (cell_blk hb2 2).trans rfl
            have q4 : w2.cell? ⟨bx, 4, none⟩ = some (.slice K keeps.length c2) := (cell_blk hb2 4).trans rfl
            have hK2 := C_fr (flat_int _) hCk mid2.fr (fun _ _ => id)
            go_wp2_with fail
            obtain ⟨v, hr⟩ := mid2.ref
            refine (rcrash_calls hr (gd.alike al).sound K c2 keeps hK2 hKl hkb).mono ?_
            rintro e w3 ⟨rfl, v', h3', k3⟩
            have h3 : RefTo w2 w3 w.heap.size gr { r with files := rcl keeps r.files, dead := false, armed := 0 } := ⟨_, _, h3', Alike.refl _, k3⟩
            obtain ⟨r3, mid3, al3⟩ := mid2.onRef h3
            obtain ⟨v0, hr0⟩ := midx.ref
            have alc := al.crash hr0.srt keeps
            go_wp2
            go_meet
            case rel => exact ⟨_, r3, 0, rfl, rfl, mid3, alc.trans al3, ((gd.alike al).rcrash keeps (fun k hk => (hkb k hk).1)).alike alc.symm, box_ref hb2 h3⟩
          by_cases a0 : ask = 0
          · subst a0
            obtain ⟨rf, hrf, hfill⟩ := fill_calls N byte
            go_wp2_with fail
            go_region_held3 (fun w' => w'.cell? ⟨bx, 1, none⟩ = some (.int .i64 file) ∧ w'.cell? ⟨bx, 2, none⟩ = some (.int .i64 N) ∧ w'.cell? ⟨bx, 3, none⟩ = some (.int .i64 byte)) (go_keep)
              ((first | (go_at_call 21; refine (hfill _).mono ?_; rintro e w2 ⟨rfl, b2⟩; have q0 : w2.heap[bx]? = some (.cells #[.int .i64 0, .int .i64 file, .int .i64 N, .int .i64 byte, .slice K keeps.length c2] 43 (0, 0)) := Fr.keep (Fr.of_below (S := fun _ => False) b2) hb id; have q1 : w2.cell? ⟨bx, 1, none⟩ = some (.int .i64 file) := (cell_blk q0 1).trans rfl; have q2 : w2.cell? ⟨bx, 2, none⟩ = some (.int .i64 N) := (cell_blk q0 2).trans rfl; have q3 : w2.cell? ⟨bx, 3, none⟩ = some (.int .i64 byte) := (cell_blk q0 3).trans rfl; have mid2 := midx.keep (((Fr.refl (fun _ => False) _).drew).trans (Fr.of_below b2))) | (go_at_call 14; refine (append_calls mid2.disk hok file rf (by omega)).mono ?_; rintro e w3 ⟨rfl, h3, k3⟩; have mid3 := mid2.onDisk h3 k3; have p0 : w3.heap[bx]? = some (.cells #[.int .i64 0, .int .i64 file, .int .i64 N, .int .i64 byte, .slice K keeps.length c2] 43 (0, 0)) := box_disk mid2.disk q0 k3; have p1 : w3.cell? ⟨bx, 1, none⟩ = some (.int .i64 file) := (cell_blk p0 1).trans rfl; have p2 : w3.cell? ⟨bx, 2, none⟩ = some (.int .i64 N) := (cell_blk p0 2).trans rfl; have p3 : w3.cell? ⟨bx, 3, none⟩ = some (.int .i64 byte) := (cell_blk p0 3).trans rfl)))
            clear q1 q2 q3
            obtain ⟨v, hr⟩ := mid3.ref
            go_wp2_with fail
            go_region_held3 (fun w' => w'.cell? ⟨bx, 1, none⟩ = some (.int .i64 file) ∧ w'.cell? ⟨bx, 2, none⟩ = some (.int .i64 N) ∧ w'.cell? ⟨bx, 3, none⟩ = some (.int .i64 byte)) (go_keep)
              ((first | (go_at_call 21; refine (hfill _).mono ?_; rintro e w4 ⟨rfl, b4⟩; have r0 : w4.heap[bx]? = some (.cells #[.int .i64 0, .int .i64 file, .int .i64 N, .int .i64 byte, .slice K keeps.length c2] 43 (0, 0)) := Fr.keep (Fr.of_below (S := fun _ => False) b4) p0 id; have r1 : w4.cell? ⟨bx, 1, none⟩ = some (.int .i64 file) := (cell_blk r0 1).trans rfl; have r2 : w4.cell? ⟨bx, 2, none⟩ = some (.int .i64 N) := (cell_blk r0 2).trans rfl; have r3 : w4.cell? ⟨bx, 3, none⟩ = some (.int .i64 byte) := (cell_blk r0 3).trans rfl; have mid4 := mid3.keep (((Fr.refl (fun _ => False) _).drew).trans (Fr.of_below b4)); have hr4 := hr.fr (((Fr.refl (fun _ => False) _).drew).trans (Fr.of_below b4)) (fun _ _ => id)) | (go_at_call 22; refine (rappend_calls hr4 hokr mid4.fr.size file rf (by omega)).mono ?_; rintro e w5 ⟨rfl, h5⟩; obtain ⟨r5, mid5, al5⟩ := mid4.onRef h5; have s0 : w5.heap[bx]? = some (.cells #[.int .i64 0, .int .i64 file, .int .i64 N, .int .i64 byte, .slice K keeps.length c2] 43 (0, 0)) := box_ref r0 h5; have s1 : w5.cell? ⟨bx, 1, none⟩ = some (.int .i64 file) := (cell_blk s0 1).trans rfl; have s2 : w5.cell? ⟨bx, 2, none⟩ = some (.int .i64 N) := (cell_blk s0 2).trans rfl; have s3 : w5.cell? ⟨bx, 3, none⟩ = some (.int .i64 byte) := (cell_blk s0 3).trans rfl)))
            go_wp2
            go_meet
            case rel => exact ⟨_, r5, d.appendE file rf, rfl, by rw [al.appendE], mid5, (al.append midx.apart file rf).trans al5, gd.append file rf, s0⟩
          · go_wp2
            go_meet
            case rel => exact ⟨d, r, 0, rfl, rfl, midx, al, gd, hb⟩
        case rest =>
          obtain ⟨d2, r2, a, rfl, rfl, mid2, al2, gd2, hb2⟩ := hcut
          obtain ⟨v, hr⟩ := mid2.ref
          have z1 := (cell_blk hb2 1).trans (show _ = some (Value.int .i64 file) from rfl)
          go_wp2_with fail
          refine (read_calls mid2.disk file).mono ?_
          rintro e w2 ⟨rfl, rfl⟩
          have hrr := rread_calls hr file
          rw [al2.readS mid2.apart file, al2.wrong file] at hrr
          go_wp2_with fail
          refine hrr.mono ?_
          rintro e w2 ⟨rfl, nq, rfl⟩
          clear hrr
          have mid3 := mid2.keep ((Fr.refl (fun _ => False) wc).drewN nq)
          have hmany := mid3.many al2
          have hok := gd2.ok hmany.1
          have hby := hok.bytes
          have hbyr : bytes r2.files ≤ 1000000000 := by rw [al2.bytes]; omega
          have hby2 : bytes d2.files ≤ 1099511627776 := by omega
          obtain ⟨w3, hw3⟩ : ∃ w3, w3 = wc.drewN nq := ⟨_, rfl⟩
          rw [← hw3] at mid3 ⊢
          clear hw3 hr z1 hb2 mid2 hmany
          have Ho := Lib.hid (And.intro hok (And.intro hby2 hbyr))
          clear hok hby hbyr hby2
          go_wp2_with fail
          refine (files_calls mid3.disk Ho.out.1).mono ?_
          rintro e w4 ⟨AF, cF, rfl, hcF, hF, -, k4⟩
          have mid4 := mid3.keep k4
          obtain ⟨v4, hr4⟩ := mid4.ref
          have hnum := al2.numbers hr4.srt
          have hrf := rfiles_calls hr4
          rw [← hnum, ← al2.files.length_eq.symm, show d2.files.length = (numbers d2.files).length by rw [hnum, List.length_map, al2.files.length_eq]] at hrf
          clear hnum
          go_wp2_with fail
          refine hrf.mono ?_
          rintro e w5 ⟨AR, cR, rfl, hcR, hR, k5⟩
          clear hrf
          have mid5 := mid4.keep k5
          have hF5 := C_fr (flat_int _) hF k5 (fun _ _ => id)
          have hint := ints_calls AF cF (numbers d2.files) AR cR (numbers d2.files) w5 hF5 hcF hR hcR
          rw [decide_eq_true (rfl : numbers d2.files = numbers d2.files)] at hint
          go_wp2_with fail
          refine hint.mono ?_
          rintro e w6 ⟨rfl, k6⟩
          clear hint
          have mid6 := mid5.keep k6
          go_wp2_with fail
          refine (size_calls mid6.disk Ho.out.2.1).mono ?_
          rintro e w7 ⟨rfl, h7, k7⟩
          have mid7 := mid6.keep k7
          obtain ⟨v7, hr7⟩ := mid7.ref
          have hrs := rsize_calls hr7 Ho.out.2.2
          rw [al2.bytes] at hrs
          go_wp2_with fail
          refine hrs.mono ?_
          rintro e w8 ⟨rfl, rfl⟩
          clear hrs
          go_wp2_with fail
          refine (dead_calls mid7.disk).mono ?_
          rintro e w8 ⟨rfl, rfl⟩
          have hrd := rdead_calls hr7
          rw [al2.dead] at hrd
          go_wp2_with fail
          refine hrd.mono ?_
          rintro e w8 ⟨rfl, rfl⟩
          clear hrd
          go_wp2_with fail
          refine (steps_calls mid7.disk).mono ?_
          rintro e w8 ⟨rfl, rfl⟩
          have hrt := rsteps_calls hr7
          rw [al2.steps] at hrt
          go_wp2_with fail
          refine hrt.mono ?_
          rintro e w8 ⟨rfl, rfl⟩
          clear hrt
          go_wp2
          go_roundg (200 - (i + 1))
          case measure => omega
          case rel => exact ⟨i + 1, d2, r2, by omega, by go_num, mid7, al2, gd2⟩
      · have hex : (¬ ((i : Int) < (ops.length : Int))) ∨ ((i : Int) < (ops.length : Int) ∧ ¬ ((i : Int) < 200)) := by omega
        clear hgo
        rcases hex with hq | ⟨hq1, hq2⟩
        all_goals
          go_wp2_with fail
          refine (awake_calls _).mono ?_
          rintro e w7 ⟨rfl, b7⟩
          go_wp2
          go_ret
          exact ⟨rfl, (mid.fr.trans (Fr.of_below b7)).to_below (fun _ _ => id)⟩
  · have hlim2 : limit < 1 ∨ 16777216 < limit := by omega
    go_enter Try.func5, Try.ntmps5
    go_wp2_with fail
    refine (new_wrong _ limit hlim2).mono ?_
    rintro e w0 ⟨rfl, rfl⟩
    go_wp2_with fail
    refine (rnew_wrong _ limit hlim2).mono ?_
    rintro e w0 ⟨rfl, rfl⟩
    go_wp2_with fail
    refine (awake_calls _).mono ?_
    rintro e w7 ⟨rfl, b7⟩
    go_wp2
    go_ret
    exact ⟨rfl, b7⟩

def QI (n : Int) : Prop := (Lit.int IntKind.i64 n).wf = true
theorem opn_ops : Opn Try.prog 37 (Kd.slice 43 kOp) (fun l => l.length ≤ 9223372036854775807 ∧ ∀ x ∈ l, QI x.1 ∧ QI x.2.1 ∧ QI x.2.2.1 ∧ QI x.2.2.2.1 ∧ (x.2.2.2.2.length ≤ 9223372036854775807 ∧ ∀ y ∈ x.2.2.2.2, QI y)) :=
  opn_slice 43 Try.underlying37 (by kernel_rfl) (opn_struct Try.underlying43 (by kernel_rfl)
    (opnF_cons (opn_int Try.underlying3 (by kernel_rfl)) rfl (opnF_cons (opn_int Try.underlying3 (by kernel_rfl)) rfl (opnF_cons (opn_int Try.underlying3 (by kernel_rfl)) rfl (opnF_cons (opn_int Try.underlying3 (by kernel_rfl)) rfl
      (opnF_one (opn_slice 3 Try.underlying41 (by kernel_rfl) (opn_int Try.underlying3 (by kernel_rfl))) rfl))))))
theorem diskPlays_row {w : World} (limit : Int) (wl : (Lit.int IntKind.i64 limit).wf = true) (A : Option Addr) (c : Nat) (ops : List OpT) (hC : Kd.C kOp w A ops.length ops)
    (hQ : ops.length ≤ 9223372036854775807 ∧ ∀ x ∈ ops, QI x.1 ∧ QI x.2.1 ∧ QI x.2.2.1 ∧ QI x.2.2.2.1 ∧ (x.2.2.2.2.length ≤ 9223372036854775807 ∧ ∀ y ∈ x.2.2.2.2, QI y)) :
    Calls Try.prog 5 #[.int .i64 limit, .slice A ops.length c] w fun e w' => e = .returned (.bool true) ∧ Below w.heap.size w w' :=
  diskPlays_calls limit A c ops w (Go.bounds_i64 wl) hC (fun x hx => ⟨Go.bounds_i64 (hQ.2 x hx).2.2.1, fun k hk => Go.bounds_i64 ((hQ.2 x hx).2.2.2.2.2 k hk)⟩)

end Go.Proofs.Ytljfagagopaidaa
