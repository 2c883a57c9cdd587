/- law13.fault of an error that is a Fault: its walk (turned from law17's). -/
import Derived.Test.YtmgandacmhkndaaDoorFault
namespace Go.Proofs.YtmgandacmhkndaaDoor
open Go.RowKit
set_option maxRecDepth 100000
set_option linter.unusedSimpArgs false

theorem results_sfault (tmps : Array Value) (w : World) (pb : Nat) (cs : Array Value) (hp : tmps.getD 2 undef = .pointer (some ⟨pb, 0, none⟩))
    (hP : Blk w pb 42 cs) (hs : cs.size = 2) : (results Tryd.f58 tmps).run Tryd.prog w = .ok (.agg cs) w := by
  have h1 : tmps[2]?.getD undef = .pointer (some ⟨pb, 0, none⟩) := by simpa using hp
  have hl := run_loadVar_row w pb 42 42 cs (0, 0) _ hP Tryd.underlying42 rfl (by rw [hs]; exact size_fault)
  simp [results, Tryd.results58, h1, asAddr, hl]
set_option maxHeartbeats 4000000 in
theorem sfault_any (fb : Nat) (p : Int) (w : World) (hg : ErrT w) (hf : Blk w fb 42 #[.int .i64 p, .int .i64 12]) :
    Calls Tryd.prog 58 #[.iface 84 (.pointer (some ⟨fb, 0, none⟩))] w (FaultPost w p) := by
  have HG := Lib.hid hg
  have HF := Lib.hid hf
  clear hg hf
  go_enter Tryd.func58, Tryd.ntmps58
  go_wp2_with fail
  have B1 := two_blk w 42 84 #[.int .i64 0, .int .i64 0] #[.pointer none]
  refine (as_fault ⟨fb, 0, none⟩ (w.heap.size + 1) (.pointer none) _ ((HG.out.alloc _).alloc _) B1.2).mono ?_
  rintro e w1 ⟨rfl, hg1, hb1⟩
  have hr := B1.1.grown hg1 (by intro e; injection e with e; omega)
  have hff := ((HF.out.alloc _).alloc _).grown hg1 (by intro e; injection e with e; have := HF.out.lt; omega)
  have c1 := hb1.cells
  have c2 := hr.cells
  have f2 := hr.frozen
  have c3 := hff.cells
  have hsz := hg1.size
  have HX := Lib.hid (show Below w.heap.size w w1 from (two_below w _ _).trans ⟨hg1.os, hg1.tape, hg1.output, by have := hg1.size; rw [alloc_size, alloc_size] at this; omega, fun i hi => hg1.block i (by rw [alloc_size, alloc_size]; omega) (by intro e; injection e with e; omega)⟩)
  have HR := Lib.hid hr
  clear hg1 hb1 B1 hff hr
  go_wp2_with fail
  have hF := (HR.out.set_ 0 (.int .i64 p)).set_ 1 (.int .i64 12)
  refine bodyPost_ret (v := .agg #[.int .i64 p, .int .i64 12]) (results_sfault _ _ _ _ rfl hF rfl) rfl ⟨rfl, (HX.out.setCell (Nat.le_refl _) _).setCell (Nat.le_refl _) _⟩
end Go.Proofs.YtmgandacmhkndaaDoor
