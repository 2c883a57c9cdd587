/- slices.Clone of bytes: its walk. Conditions: the slice's bytes are known. -/
import Derived.Test.YtmgandacmhkndaaDoorRdrT
namespace Go.Proofs.YtmgandacmhkndaaDoor
open Go.RowKit
set_option maxRecDepth 100000

theorem own_empty (w : World) (base : Nat) (h : base ≤ w.heap.size) : OwnB (w.alloc (.cells #[] 5)) base (.slice (some ⟨w.heap.size, 0, none⟩) 0 0) [] := by
  refine ⟨by decide, .inr ⟨w.heap.size, 0, #[], rfl, h, Blk.new w 5 #[], by decide, by decide, by decide, rfl⟩⟩

set_option maxHeartbeats 2000000 in
theorem clone_any (b : List UInt8) (A : Option Addr) (c : Nat) (w : World) (hr : Rd w A (bvs b)) (hl : b.length ≤ 140737488355328) :
    Calls Tryd.prog 53 #[.slice A b.length c] w fun e w' => ∃ v', e = .returned v' ∧ OwnB w' w.heap.size v' b ∧ Below w.heap.size w w' := by
  have qT : ∀ (w : World) (a : Option Addr) (n c n' c' : Nat), (binOp .eql 24 (.slice a n c) (.slice none n' c')).run Tryd.prog w = .ok (.bool a.isNone) w := fun w a n c n' c' => Lib.run_eql_slice_nil w _ _ a n c n' c' Tryd.underlying24
  cases A with
  | none =>
    have hb : b = [] := by
      rcases hr with h | ⟨_, h, _⟩
      · simpa using h
      · cases h
    subst hb
    go_enter Tryd.func53, Tryd.ntmps53
    go_wp2_with fail
    go_ret
    exact ⟨_, rfl, own_nil _ _ _ _, Below.refl _ _⟩
  | some ad =>
    have HR := Lib.hid hr
    clear hr
    go_enter Tryd.func53, Tryd.ntmps53
    go_wp2_with (first
      | (at_builtin
         refine wpList_append_rd (w.alloc (.cells #[] 5)) rfl (.tmp 5) (.tmp 6) 24 rfl w.heap.size 5 _ 1 Tryd.underlying24 info_u8 rfl _ [] (some ad) b.length c (bvs b) rfl rfl (List.length_map _).symm (own_empty w _ (Nat.le_refl _)) (HR.out.alloc _) ?h1 ?h2 ?h3 ?h4 ?_
         rotate_left 4
         intro v1 w1 happ
         have HA1 := Lib.hid happ
         clear happ))
    case h1 => simp [bv, Value.oneCell']
    case h2 => simp only [maxLen, List.length_map, List.length_nil]; omega
    case h3 => simp only [List.length_map, List.length_nil]; omega
    case h4 => rw [alloc_size]; omega
    go_ret
    refine ⟨_, rfl, HA1.out.own, ?_⟩
    have hg := HA1.out.grown
    exact ⟨hg.os, hg.tape, hg.output, by have := hg.size; rw [alloc_size] at this; omega, fun i hi => (hg.block i (by rw [alloc_size]; omega) (by intro e; injection e with e; simp only at e; omega)).trans (Below.heap_alloc w _ i hi)⟩
end Go.Proofs.YtmgandacmhkndaaDoor
