/- wire.Decode's deferred closure: its two contracts. -/
import Derived.Test.YtmgandacmhkndaaDoorLetW
import Derived.Defers
import Derived.Recover
namespace Go.Proofs.YtmgandacmhkndaaDoor
open Go.RowKit
set_option maxRecDepth 100000
set_option linter.unusedSimpArgs false

/-- Behind the deferred closure: the fault laid, the results turned. -/
structure DSt (w W : World) (pb qb : Nat) (x : Int) (zs : Array Value) (y : Value) : Prop where
  os : W.os = w.os
  tape : W.tape = w.tape
  output : W.output = w.output
  size : W.heap.size = w.heap.size + 1
  fault : Blk W w.heap.size 42 #[.int .i64 x, .int .i64 12]
  p : Blk W pb 28 zs
  q : Blk W qb 37 #[y]
  keep : ∀ i, i < w.heap.size → i ≠ pb → i ≠ qb → W.heap[i]? = w.heap[i]?
theorem DSt.start {w : World} {pb qb : Nat} (x : Int) {zs : Array Value} {y : Value} (hp : Blk w pb 28 zs) (hq : Blk w qb 37 #[y]) :
    DSt w (w.alloc (.cells #[.int .i64 x, .int .i64 12] 42)) pb qb x zs y :=
  ⟨rfl, rfl, rfl, alloc_size _ _, Blk.new _ _ _, hp.alloc _, hq.alloc _, fun i hi _ _ => Below.heap_alloc w _ i hi⟩
theorem DSt.setp {w W : World} {pb qb : Nat} {x : Int} {zs : Array Value} {y : Value} (h : DSt w W pb qb x zs y) (hp : pb < w.heap.size) (hpq : pb ≠ qb) (i : Nat) (u : Value) :
    DSt w (W.setCell ⟨pb, i, none⟩ u) pb qb x (zs.setIfInBounds i u) y :=
  ⟨h.os, h.tape, h.output, by have := h.size; simpa [World.setCell] using this, h.fault.far (by simp only; omega) u, h.p.set_ i u, h.q.far (Ne.symm hpq) u, fun j hj h1 h2 => (Below.heap_setCell W _ u j h1).trans (h.keep j hj h1 h2)⟩
theorem DSt.setq {w W : World} {pb qb : Nat} {x : Int} {zs : Array Value} {y : Value} (h : DSt w W pb qb x zs y) (hq : qb < w.heap.size) (hpq : pb ≠ qb) (u : Value) :
    DSt w (W.setCell ⟨qb, 0, none⟩ u) pb qb x zs u :=
  ⟨h.os, h.tape, h.output, by have := h.size; simpa [World.setCell] using this, h.fault.far (by simp only; omega) u, h.p.far hpq u, h.q.set_ 0 u, fun j hj h1 h2 => (Below.heap_setCell W _ u j h2).trans (h.keep j hj h1 h2)⟩
def zero14 : Array Value := #[.int .i64 0, .int .i64 0, .int .i64 0, .int .i64 0, .int .i64 0, .int .i64 0, .int .i64 0, .int .i64 0, .bool false, .slice none 0 0, .int .i64 0, .int .i64 0, .slice none 0 0, .slice none 0 0]
theorem DSt.set14 {w W : World} {pb qb : Nat} {x : Int} {y z0 z1 z2 z3 z4 z5 z6 z7 z8 z9 z10 z11 z12 z13 : Value} (h : DSt w W pb qb x #[z0, z1, z2, z3, z4, z5, z6, z7, z8, z9, z10, z11, z12, z13] y) (hp : pb < w.heap.size) (hpq : pb ≠ qb) :
    DSt w ((((((((((((((W.setCell ⟨pb, 0, none⟩ (.int .i64 0)).setCell ⟨pb, 1, none⟩ (.int .i64 0)).setCell ⟨pb, 2, none⟩ (.int .i64 0)).setCell ⟨pb, 3, none⟩ (.int .i64 0)).setCell ⟨pb, 4, none⟩ (.int .i64 0)).setCell ⟨pb, 5, none⟩ (.int .i64 0)).setCell ⟨pb, 6, none⟩ (.int .i64 0)).setCell ⟨pb, 7, none⟩ (.int .i64 0)).setCell ⟨pb, 8, none⟩ (.bool false)).setCell ⟨pb, 9, none⟩ (.slice none 0 0)).setCell ⟨pb, 10, none⟩ (.int .i64 0)).setCell ⟨pb, 11, none⟩ (.int .i64 0)).setCell ⟨pb, 12, none⟩ (.slice none 0 0)).setCell ⟨pb, 13, none⟩ (.slice none 0 0)) pb qb x zero14 y := by
  have h : DSt w _ pb qb x #[.int .i64 0, z1, z2, z3, z4, z5, z6, z7, z8, z9, z10, z11, z12, z13] y := DSt.setp h hp hpq 0 (.int .i64 0)
  have h : DSt w _ pb qb x #[.int .i64 0, .int .i64 0, z2, z3, z4, z5, z6, z7, z8, z9, z10, z11, z12, z13] y := DSt.setp h hp hpq 1 (.int .i64 0)
  have h : DSt w _ pb qb x #[.int .i64 0, .int .i64 0, .int .i64 0, z3, z4, z5, z6, z7, z8, z9, z10, z11, z12, z13] y := DSt.setp h hp hpq 2 (.int .i64 0)
  have h : DSt w _ pb qb x #[.int .i64 0, .int .i64 0, .int .i64 0, .int .i64 0, z4, z5, z6, z7, z8, z9, z10, z11, z12, z13] y := DSt.setp h hp hpq 3 (.int .i64 0)
  have h : DSt w _ pb qb x #[.int .i64 0, .int .i64 0, .int .i64 0, .int .i64 0, .int .i64 0, z5, z6, z7, z8, z9, z10, z11, z12, z13] y := DSt.setp h hp hpq 4 (.int .i64 0)
  have h : DSt w _ pb qb x #[.int .i64 0, .int .i64 0, .int .i64 0, .int .i64 0, .int .i64 0, .int .i64 0, z6, z7, z8, z9, z10, z11, z12, z13] y := DSt.setp h hp hpq 5 (.int .i64 0)
  have h : DSt w _ pb qb x #[.int .i64 0, .int .i64 0, .int .i64 0, .int .i64 0, .int .i64 0, .int .i64 0, .int .i64 0, z7, z8, z9, z10, z11, z12, z13] y := DSt.setp h hp hpq 6 (.int .i64 0)
  have h : DSt w _ pb qb x #[.int .i64 0, .int .i64 0, .int .i64 0, .int .i64 0, .int .i64 0, .int .i64 0, .int .i64 0, .int .i64 0, z8, z9, z10, z11, z12, z13] y := DSt.setp h hp hpq 7 (.int .i64 0)
  have h : DSt w _ pb qb x #[.int .i64 0, .int .i64 0, .int .i64 0, .int .i64 0, .int .i64 0, .int .i64 0, .int .i64 0, .int .i64 0, .bool false, z9, z10, z11, z12, z13] y := DSt.setp h hp hpq 8 (.bool false)
  have h : DSt w _ pb qb x #[.int .i64 0, .int .i64 0, .int .i64 0, .int .i64 0, .int .i64 0, .int .i64 0, .int .i64 0, .int .i64 0, .bool false, .slice none 0 0, z10, z11, z12, z13] y := DSt.setp h hp hpq 9 (.slice none 0 0)
  have h : DSt w _ pb qb x #[.int .i64 0, .int .i64 0, .int .i64 0, .int .i64 0, .int .i64 0, .int .i64 0, .int .i64 0, .int .i64 0, .bool false, .slice none 0 0, .int .i64 0, z11, z12, z13] y := DSt.setp h hp hpq 10 (.int .i64 0)
  have h : DSt w _ pb qb x #[.int .i64 0, .int .i64 0, .int .i64 0, .int .i64 0, .int .i64 0, .int .i64 0, .int .i64 0, .int .i64 0, .bool false, .slice none 0 0, .int .i64 0, .int .i64 0, z12, z13] y := DSt.setp h hp hpq 11 (.int .i64 0)
  have h : DSt w _ pb qb x #[.int .i64 0, .int .i64 0, .int .i64 0, .int .i64 0, .int .i64 0, .int .i64 0, .int .i64 0, .int .i64 0, .bool false, .slice none 0 0, .int .i64 0, .int .i64 0, .slice none 0 0, z13] y := DSt.setp h hp hpq 12 (.slice none 0 0)
  have h : DSt w _ pb qb x #[.int .i64 0, .int .i64 0, .int .i64 0, .int .i64 0, .int .i64 0, .int .i64 0, .int .i64 0, .int .i64 0, .bool false, .slice none 0 0, .int .i64 0, .int .i64 0, .slice none 0 0, .slice none 0 0] y := DSt.setp h hp hpq 13 (.slice none 0 0)
  exact h

set_option maxHeartbeats 4000000 in
theorem defer_panics (pb qb : Nat) (x : Int) (zs : Array Value) (y : Value) (w : World) (hp : Blk w pb 28 zs) (hz : zs.size = 14) (hq : Blk w qb 37 #[y]) (hpq : pb ≠ qb) :
    CallsD Tryd.prog 52 #[.pointer (some ⟨pb, 0, none⟩), .pointer (some ⟨qb, 0, none⟩)] (.panicking [{ v := .iface 83 (.int .i64 x), recovered := false }]) w fun e u' w' =>
      e = .returned (.tuple #[]) ∧ u' = .panicking [{ v := .iface 83 (.int .i64 x), recovered := true }] ∧ DSt w w' pb qb x zero14 (.iface 84 (.pointer (some ⟨w.heap.size, 0, none⟩))) := by
  have hn1 : w.heap.size ≠ pb := by have := hp.lt; omega
  have hn2 : w.heap.size ≠ qb := by have := hq.lt; omega
  have hqp : qb ≠ pb := Ne.symm hpq
  have hta : ∀ w : World, (Instr.typeAssert (.iface 83 (.int .i64 x)) 20 83 true).run Tryd.prog w = .ok (.tuple #[.int .i64 x, .bool true]) w := fun _ => by kernel_rfl
  obtain ⟨z0, z1, z2, z3, z4, z5, z6, z7, z8, z9, z10, z11, z12, z13, rfl⟩ := arr14 zs hz
  have f2 := fun o : Obj => (hp.alloc o).frozen
  have c2 := fun o : Obj => (hp.alloc o).cells
  have fq := fun o : Obj => (hq.alloc o).frozen
  have cq := fun o : Obj => (hq.alloc o).cells
  clear hz
  refine callsD_of_wpS Tryd.func52 rfl fun c₀ cs hu => ?_
  apply wpS_seq
  apply wpS_region
  simp [wpOpsS, go_sem, recoverD, hu, Tryd.ntmps52, Exit.thenS]
  refine wpS_of_wp ?_
  go_wp2
  clear f2 c2 fq cq
  have hD := ((DSt.start x hp hq).set14 hp.lt hpq).setq hq.lt hpq (.iface 84 (.pointer (some ⟨w.heap.size, 0, none⟩)))
  simp only [bodyPostS]
  refine ⟨trivial, _, rfl, .tuple #[], ?_, rfl, rfl, hD⟩
  simp [results, Tryd.results52]

theorem defer_idle (p q : Addr) (w : World) :
    CallsD Tryd.prog 52 #[.pointer (some p), .pointer (some q)] .returning w fun e u' w' => e = .returned (.tuple #[]) ∧ u' = .returning ∧ w' = w := by
  refine callsD_of_wpS Tryd.func52 rfl fun c₀ cs hu => ?_
  apply wpS_seq
  apply wpS_region
  simp [wpOpsS, go_sem, recoverD, hu, Tryd.ntmps52, Exit.thenS]
  refine wpS_of_wp ?_
  go_wp2
  simp only [bodyPostS]
  cases c₀
  simp_all [results, Tryd.results52]
end Go.Proofs.YtmgandacmhkndaaDoor
