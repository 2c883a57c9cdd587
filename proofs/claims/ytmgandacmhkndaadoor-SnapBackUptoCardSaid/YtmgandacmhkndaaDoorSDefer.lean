/- snap.Decode's deferred closure: its two contracts. -/
import Derived.Test.YtmgandacmhkndaaDoorSDec0
import Derived.Defers
import Derived.Recover
namespace Go.Proofs.YtmgandacmhkndaaDoor
open Go.RowKit
set_option maxRecDepth 100000
set_option linter.unusedSimpArgs false

/-- Behind the deferred closure: the fault laid, the results turned. -/
structure SDSt (w W : World) (pb qb : Nat) (x : Int) (zs : Array Value) (y : Value) : Prop where
  os : W.os = w.os
  tape : W.tape = w.tape
  output : W.output = w.output
  size : W.heap.size = w.heap.size + 2
  fault : Blk W (w.heap.size + 1) 42 #[.int .i64 x, .int .i64 12]
  p : Blk W pb 61 zs
  q : Blk W qb 37 #[y]
  keep : ∀ i, i < w.heap.size → i ≠ pb → i ≠ qb → W.heap[i]? = w.heap[i]?
theorem SDSt.start {w : World} {pb qb : Nat} (o : Obj) (x : Int) {zs : Array Value} {y : Value} (hp : Blk w pb 61 zs) (hq : Blk w qb 37 #[y]) :
    SDSt w ((w.alloc o).alloc (.cells #[.int .i64 x, .int .i64 12] 42)) pb qb x zs y :=
  ⟨rfl, rfl, rfl, by rw [alloc_size, alloc_size], Blk.new1f w o _ _, (hp.alloc _).alloc _, (hq.alloc _).alloc _, fun i hi _ _ => (Below.heap_alloc _ _ i (by rw [alloc_size]; omega)).trans (Below.heap_alloc w _ i hi)⟩
theorem SDSt.setp {w W : World} {pb qb : Nat} {x : Int} {zs : Array Value} {y : Value} (h : SDSt w W pb qb x zs y) (hp : pb < w.heap.size) (hpq : pb ≠ qb) (i : Nat) (u : Value) :
    SDSt w (W.setCell ⟨pb, i, none⟩ u) pb qb x (zs.setIfInBounds i u) y :=
  ⟨h.os, h.tape, h.output, by have := h.size; simpa [World.setCell] using this, h.fault.far (by simp only; omega) u, h.p.set_ i u, h.q.far (Ne.symm hpq) u, fun j hj h1 h2 => (Below.heap_setCell W _ u j h1).trans (h.keep j hj h1 h2)⟩
theorem SDSt.setq {w W : World} {pb qb : Nat} {x : Int} {zs : Array Value} {y : Value} (h : SDSt w W pb qb x zs y) (hq : qb < w.heap.size) (hpq : pb ≠ qb) (u : Value) :
    SDSt w (W.setCell ⟨qb, 0, none⟩ u) pb qb x zs u :=
  ⟨h.os, h.tape, h.output, by have := h.size; simpa [World.setCell] using this, h.fault.far (by simp only; omega) u, h.p.far hpq u, h.q.set_ 0 u, fun j hj h1 h2 => (Below.heap_setCell W _ u j h2).trans (h.keep j hj h1 h2)⟩
def zero2 : Array Value := #[.slice none 0 0, .slice none 0 0]
theorem SDSt.set2 {w W : World} {pb qb : Nat} {x : Int} {y z0 z1 : Value} (h : SDSt w W pb qb x #[z0, z1] y) (hp : pb < w.heap.size) (hpq : pb ≠ qb) :
    SDSt w ((W.setCell ⟨pb, 0, none⟩ (.slice none 0 0)).setCell ⟨pb, 1, none⟩ (.slice none 0 0)) pb qb x zero2 y := by
  have h : SDSt w _ pb qb x #[.slice none 0 0, z1] y := SDSt.setp h hp hpq 0 (.slice none 0 0)
  have h : SDSt w _ pb qb x #[.slice none 0 0, .slice none 0 0] y := SDSt.setp h hp hpq 1 (.slice none 0 0)
  exact h

set_option maxHeartbeats 400000 in
theorem sdefer_panics (rb g pb qb : Nat) (x : Int) (v0 : Value) (z0 z1 : Value) (y : Value) (w : World) (hrb : Blk w rb 108 #[.pointer (some ⟨g, 0, none⟩)]) (hg : Blk w g 110 #[v0, .int .i64 x])
    (hp : Blk w pb 61 #[z0, z1]) (hq : Blk w qb 37 #[y]) (hpq : pb ≠ qb) :
    CallsD Tryd.prog 63 #[.pointer (some ⟨rb, 0, none⟩), .pointer (some ⟨pb, 0, none⟩), .pointer (some ⟨qb, 0, none⟩)] (.panicking [{ v := .iface 112 (.agg #[]), recovered := false }]) w fun e u' w' =>
      e = .returned (.tuple #[]) ∧ u' = .panicking [{ v := .iface 112 (.agg #[]), recovered := true }] ∧ SDSt w w' pb qb x zero2 (.iface 84 (.pointer (some ⟨w.heap.size + 1, 0, none⟩))) := by
  have hn1 : w.heap.size ≠ pb := by have := hp.lt; omega
  have hn2 : w.heap.size ≠ qb := by have := hq.lt; omega
  have hqp : qb ≠ pb := Ne.symm hpq
  have hta : ∀ w : World, (Instr.typeAssert (.iface 112 (.agg #[])) 20 112 true).run Tryd.prog w = .ok (.tuple #[.agg #[], .bool true]) w := fun _ => by kernel_rfl
  have hnn : ∀ w : World, (binOp .neq 20 (.iface 112 (.agg #[])) .nilIface).run Tryd.prog w = .ok (.bool true) w := fun _ => by kernel_rfl
  have f2 := fun o o' : Obj => ((hp.alloc o).alloc o').frozen
  have c2 := fun o o' : Obj => ((hp.alloc o).alloc o').cells
  have fq := fun o o' : Obj => ((hq.alloc o).alloc o').frozen
  have cq := fun o o' : Obj => ((hq.alloc o).alloc o').cells
  have cr := fun o : Obj => (hrb.alloc o).cells
  have cg := fun o : Obj => (hg.alloc o).cells
  have HP := Lib.hid hp
  have HQ := Lib.hid hq
  clear hp hq
  refine callsD_of_wpS Tryd.func63 rfl fun c₀ cs hu => ?_
  apply wpS_seq
  apply wpS_region
  simp [wpOpsS, go_sem, recoverD, hu, Tryd.ntmps63, Exit.thenS]
  refine wpS_of_wp ?_
  have ht : (#[.pointer (some ⟨rb, 0, none⟩), .pointer (some ⟨pb, 0, none⟩), .pointer (some ⟨qb, 0, none⟩)] ++ ((Array.replicate 22 undef).setIfInBounds 3 (.iface 112 (.agg #[]))).setIfInBounds 0 (.iface 112 (.agg #[])) : Array Value) = #[.pointer (some ⟨rb, 0, none⟩), .pointer (some ⟨pb, 0, none⟩), .pointer (some ⟨qb, 0, none⟩), .iface 112 (.agg #[]), undef, undef, .iface 112 (.agg #[]), undef, undef, undef, undef, undef, undef, undef, undef, undef, undef, undef, undef, undef, undef, undef, undef, undef, undef] := by
    apply Array.ext'
    simp only [Array.toList_append, Array.toList_setIfInBounds, Array.toList_replicate]
    rfl
  rw [ht]
  clear ht
  go_wp2_with fail
  clear f2 c2 fq cq cr cg
  have hD := ((SDSt.start (.cells #[] 112) x HP.out HQ.out).set2 HP.out.lt hpq).setq HQ.out.lt hpq (.iface 84 (.pointer (some ⟨w.heap.size + 1, 0, none⟩)))
  simp only [bodyPostS]
  refine ⟨trivial, _, rfl, .tuple #[], ?_, rfl, rfl, hD⟩
  simp [results, Tryd.results63]
end Go.Proofs.YtmgandacmhkndaaDoor
