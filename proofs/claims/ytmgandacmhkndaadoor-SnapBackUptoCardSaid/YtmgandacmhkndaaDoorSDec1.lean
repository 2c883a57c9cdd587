/- snap.Decode of [83, 0]: its walk. -/
import Derived.Test.YtmgandacmhkndaaDoorSDefer
namespace Go.Proofs.YtmgandacmhkndaaDoor
open Go.RowKit
set_option maxRecDepth 100000
set_option linter.unusedSimpArgs false

theorem size_store : (Tryd.prog.info? 61).map (·.size) = some 2 := by kernel_rfl
theorem results_sdec (tmps : Array Value) (w : World) (pb qb : Nat) (cs : Array Value) (y : Value) (hp : tmps.getD 2 undef = .pointer (some ⟨pb, 0, none⟩)) (hq : tmps.getD 3 undef = .pointer (some ⟨qb, 0, none⟩))
    (hP : Blk w pb 61 cs) (hs : cs.size = 2) (hQ : Blk w qb 37 #[y]) : (results Tryd.f32 tmps).run Tryd.prog w = .ok (.tuple #[.agg cs, y]) w := by
  have h1 : tmps[2]?.getD undef = .pointer (some ⟨pb, 0, none⟩) := by simpa using hp
  have h2 : tmps[3]?.getD undef = .pointer (some ⟨qb, 0, none⟩) := by simpa using hq
  have hl := run_loadVar_row w pb 61 61 cs (0, 0) _ hP Tryd.underlying61 rfl (by rw [hs]; exact size_store)
  have hc : w.cell? ⟨qb, 0, none⟩ = some y := hQ.cell 0
  have hl2 : (loadVar 37 ⟨qb, 0, none⟩).run Tryd.prog w = .ok y w := by simp [go_sem, hc]
  simp [results, Tryd.results32, h1, h2, asAddr, hl, hl2]

theorem Blk.new3 (w : World) (o o' o'' : Obj) (t : TypeId) (cs : Array Value) : Blk ((((w.alloc o).alloc o').alloc o'').alloc (.cells cs t)) (w.heap.size + 1 + 1 + 1) t cs := by
  have := Blk.new (((w.alloc o).alloc o').alloc o'') t cs
  rwa [alloc_size, alloc_size, alloc_size] at this
/-- The world in which Decode reads: its two results, its reader and the reader's variable. -/
structure SDW (w W : World) (ad : Addr) (c : Nat) : Prop where
  below : Below w.heap.size w W
  size : W.heap.size = w.heap.size + 4
  p : Blk W w.heap.size 61 #[.slice none 0 0, .slice none 0 0]
  q : Blk W (w.heap.size + 1) 37 #[.nilIface]
  r : SRdr W (w.heap.size + 1 + 1) [83, 0] 1 (some ad) c
  v : Blk W (w.heap.size + 1 + 1 + 1) 108 #[.pointer (some ⟨w.heap.size + 1 + 1, 0, none⟩)]
theorem SDW.new (w : World) (ad : Addr) (c : Nat) (hr : Rd w (some ad) (bvs [83, 0])) (hc : 2 ≤ c) (hl : c ≤ 9223372036854775807) (hlt : ad.block < w.heap.size) :
    SDW w ((((w.alloc (.cells #[.slice none 0 0, .slice none 0 0] 61)).alloc (.cells #[.nilIface] 37)).alloc (.cells #[.slice (some ad) 2 c, .int .i64 1] 110)).alloc
      (.cells #[.pointer (some ⟨w.heap.size + 1 + 1, 0, none⟩)] 108)) ad c := by
  refine ⟨((((Below.refl w.heap.size w).alloc (Nat.le_refl _) _).alloc (by simp only [alloc_size]; omega) _).alloc (by simp only [alloc_size]; omega) _).alloc (by simp only [alloc_size]; omega) _, by simp only [alloc_size],
    (((Blk.new w _ _).alloc _).alloc _).alloc _, ((Blk.new1f w _ _ _).alloc _).alloc _, ⟨(Blk.new2 w _ _ _ _).alloc _, (((hr.alloc _).alloc _).alloc _).alloc _, ?_, hc, hl, by decide⟩, Blk.new3 w _ _ _ _ _⟩
  rintro ad' e h
  injection e with e
  subst e
  omega

set_option maxHeartbeats 8000000 in
theorem sdec0_any (A : Option Addr) (c : Nat) (w : World) (hr : Rd w A (bvs [83, 0])) (hc : 2 ≤ c) (hl : c ≤ 9223372036854775807) :
    Calls Tryd.prog 32 #[.slice A 2 c] w fun e w' => ∃ fb, e = .returned (.tuple #[.agg #[.slice none 0 0, .slice none 0 0], .iface 84 (.pointer (some ⟨fb, 0, none⟩))]) ∧
      Below w.heap.size w w' ∧ w.heap.size ≤ fb ∧ Blk w' fb 42 #[.int .i64 2, .int .i64 12] := by
  have hmf := mkf
  obtain ⟨ad, rfl, hcl⟩ := hr.byte (k := 0) (by decide)
  have hlt : ad.block < w.heap.size := by
    have := World.block_lt_of_cell? w _ (hcl 0 (by decide))
    rwa [block_of_add] at this
  have h0 : w.cell? (ad.add 0) = some (.int .u8 83) := hcl 0 (by decide)
  have HRd := Lib.hid (show ∀ o o' : Obj, Rd ((w.alloc o).alloc o') (some ad) (bvs [83, 0]) from fun o o' => (hr.alloc o).alloc o')
  have h3 : ∀ o1 o2 o3 o4 : Obj, ((((w.alloc o1).alloc o2).alloc o3).alloc o4).cell? (ad.add 0) = some (.int .u8 83) := fun o1 o2 o3 o4 =>
    cell_keep (((((Below.refl w.heap.size w).alloc (Nat.le_refl _) o1).alloc (by simp only [alloc_size]; omega) o2).alloc (by simp only [alloc_size]; omega) o3).alloc (by simp only [alloc_size]; omega) o4) h0
  have e0 : ad.add 0 = ad := by unfold Addr.add; split <;> simp_all
  rw [e0] at h3
  have HR := Lib.hid hr
  clear hr hcl h0 e0
  go_enter_defers Tryd.func32, Tryd.ntmps32
  go_upto_region 6 with fail
  have hW := SDW.new w ad c HR.out hc hl hlt
  clear h3
  revert hW
  generalize ((((w.alloc (.cells #[.slice none 0 0, .slice none 0 0] 61)).alloc (.cells #[.nilIface] 37)).alloc (.cells #[.slice (some ad) 2 c, .int .i64 1] 110)).alloc
      (.cells #[.pointer (some ⟨w.heap.size + 1 + 1, 0, none⟩)] 108)) = W
  intro hW
  have cv := hW.v.cells
  have HW := Lib.hid hW
  clear hW
  go_wp2_with fail
  refine (store0_any _ _ _ W HW.out.r).mono ?_
  rintro e w2 ⟨rfl, hg2, hR2⟩
  have hZ2 := HW.out.p.grown hg2 (by intro e; injection e with e; omega)
  have hE2 := HW.out.q.grown hg2 (by intro e; injection e with e; omega)
  have hV2 := HW.out.v.grown hg2 (by intro e; injection e with e; omega)
  go_wp2_with fail
  refine leaves_cons (f := 63) (args := #[.pointer (some ⟨w.heap.size + 1 + 1 + 1, 0, none⟩), .pointer (some ⟨w.heap.size, 0, none⟩), .pointer (some ⟨w.heap.size + 1, 0, none⟩)]) (by simp) (by simp [go_sem]) ?_
  refine (sdefer_panics (w.heap.size + 1 + 1 + 1) (w.heap.size + 1 + 1) w.heap.size (w.heap.size + 1) 2 _ _ _ .nilIface w2 hV2 hR2.blk hZ2 hE2 (by omega)).mono ?_
  rintro e u' w3 ⟨rfl, rfl, hD⟩
  simp only [Leaves, settle]
  refine ⟨_, results_sdec _ _ _ _ _ _ rfl rfl hD.p rfl hD.q, w2.heap.size + 1, rfl, ?_, ?_, hD.fault⟩
  · have hs := hg2.size
    have hs0 := HW.out.size
    refine ⟨hD.os.trans (hg2.os.trans HW.out.below.os), hD.tape.trans (hg2.tape.trans HW.out.below.tape), hD.output.trans (hg2.output.trans HW.out.below.output), by rw [hD.size]; omega, fun i hi => ?_⟩
    exact (hD.keep i (by omega) (by omega) (by omega)).trans ((hg2.block i (by omega) (by intro e; injection e with e; omega)).trans (HW.out.below.block i hi))
  · have hs := hg2.size
    have hs0 := HW.out.size
    omega
end Go.Proofs.YtmgandacmhkndaaDoor
