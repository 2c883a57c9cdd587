/- law17.fault of an error that is a Fault: its walk. Conditions: errors.errorType holds the handle of the type error; the fault's block is known. -/
import Derived.Test.YtmgandacmhkndaaDoorAs
import Derived.Test.YtmgandacmhkndaaDoorDec
namespace Go.Proofs.YtmgandacmhkndaaDoor
open Go.RowKit
set_option maxRecDepth 100000
set_option linter.unusedSimpArgs false

/-- errors.errorType holds its handle. -/
def ErrT (w : World) : Prop := w.cell? ⟨0, 0, none⟩ = some (.iface 139 (.agg #[.pointer (some ⟨2, 37, none⟩)]))
theorem ErrT.keep {w w' : World} (h : ErrT w) (hb : Below w.heap.size w w') : ErrT w' := cell_keep hb h
theorem ErrT.alloc {w : World} (h : ErrT w) (o : Obj) : ErrT (w.alloc o) := h.keep ((Below.refl _ _).alloc (Nat.le_refl _) o)
theorem ErrT.drewN {w : World} (h : ErrT w) (k : Nat) : ErrT (w.drewN k) := h
theorem ErrT.drew {w : World} (h : ErrT w) : ErrT w.drew := h
def AsPost (w : World) (tb : Nat) (e : Addr) (ev : Ending) (w' : World) : Prop := ev = .returned (.bool true) ∧ w.grownBy w' (some tb) ∧ Blk w' tb 84 #[.pointer (some e)]
theorem as_fault (e : Addr) (tb : Nat) (old : Value) (w : World) (hg : ErrT w) (ht : Blk w tb 84 #[old]) :
    Calls Tryd.prog 57 #[.iface 84 (.pointer (some e)), .iface 93 (.pointer (some ⟨tb, 0, none⟩))] w (AsPost w tb e) := by
  refine (as_hit e ⟨tb, 0, none⟩ old w hg (by rw [ht.cell 0]; rfl) (ht.frozen 0)).mono ?_
  rintro ev w' ⟨rfl, rfl⟩
  refine ⟨rfl, ?_, ?_⟩
  · exact grown_trans (grown_trans (grown_trans (grown_trans (World.grownBy_alloc _ _ _) (World.grownBy_alloc _ _ _)) (World.grownBy_alloc _ _ _)) (World.grownBy_alloc _ _ _)) (grown_set _ _ _)
  · exact ((((ht.alloc _).alloc _).alloc _).alloc _).set_ 0 _

theorem size_fault : (Tryd.prog.info? 42).map (·.size) = some 2 := by kernel_rfl
theorem results_fault (tmps : Array Value) (w : World) (pb : Nat) (cs : Array Value) (hp : tmps.getD 2 undef = .pointer (some ⟨pb, 0, none⟩))
    (hP : Blk w pb 42 cs) (hs : cs.size = 2) : (results Tryd.f20 tmps).run Tryd.prog w = .ok (.agg cs) w := by
  have h1 : tmps[2]?.getD undef = .pointer (some ⟨pb, 0, none⟩) := by simpa using hp
  have hl := run_loadVar_row w pb 42 42 cs (0, 0) _ hP Tryd.underlying42 rfl (by rw [hs]; exact size_fault)
  simp [results, Tryd.results20, h1, asAddr, hl]
def FaultPost (w : World) (p : Int) (e : Ending) (w' : World) : Prop := e = .returned (.agg #[.int .i64 p, .int .i64 12]) ∧ Below w.heap.size w w'
set_option maxHeartbeats 4000000 in
theorem fault_any (fb : Nat) (p : Int) (w : World) (hg : ErrT w) (hf : Blk w fb 42 #[.int .i64 p, .int .i64 12]) :
    Calls Tryd.prog 20 #[.iface 84 (.pointer (some ⟨fb, 0, none⟩))] w (FaultPost w p) := by
  have HG := Lib.hid hg
  have HF := Lib.hid hf
  clear hg hf
  go_enter Tryd.func20, Tryd.ntmps20
  go_wp2_with fail
  have B1 := two_blk w 42 84 #[.int .i64 0, .int .i64 0] #[.pointer none]
  refine (as_fault ⟨fb, 0, none⟩ (w.heap.size + 1) (.pointer none) _ ((HG.out.alloc _).alloc _) B1.2).mono ?_
  rintro e w1 ⟨rfl, hg1, hb1⟩
  have hr := B1.1.grown hg1 (by intro e; injection e with e; omega)
  have hff := ((HF.out.alloc _).alloc _).grown hg1 (by intro e; injection e with e; have := HF.out.lt; omega)
  have c1 := hb1.cells
  have c2 := hr.cells
  have f2 := hr.frozen
  have c3 := hff.cells
  have hsz := hg1.size
  have HX := Lib.hid (show Below w.heap.size w w1 from (two_below w _ _).trans ⟨hg1.os, hg1.tape, hg1.output, by have := hg1.size; rw [alloc_size, alloc_size] at this; omega, fun i hi => hg1.block i (by rw [alloc_size, alloc_size]; omega) (by intro e; injection e with e; omega)⟩)
  have HR := Lib.hid hr
  clear hg1 hb1 B1 hff hr
  go_wp2_with fail
  have hF := (HR.out.set_ 0 (.int .i64 p)).set_ 1 (.int .i64 12)
  refine bodyPost_ret (v := .agg #[.int .i64 p, .int .i64 12]) (results_fault _ _ _ _ rfl hF rfl) rfl ⟨rfl, (HX.out.setCell (Nat.le_refl _) _).setCell (Nat.le_refl _) _⟩
end Go.Proofs.YtmgandacmhkndaaDoor
