/- The empty store: docs.Right, snap.Encode of it. -/
import Derived.Test.YtmgandacmhkndaaDoorPut
namespace Go.Proofs.YtmgandacmhkndaaDoor
open Go.RowKit
set_option maxRecDepth 100000
set_option linter.unusedSimpArgs false

set_option maxHeartbeats 4000000 in
theorem acl_nil (w : World) : Calls Tryd.prog 80 #[.slice none 0 0] w fun e w' => e = .returned (.bool true) ∧ w' = w := by
  go_enter Tryd.func80, Tryd.ntmps80
  go_wp2_with fail
  go_loopg [7] 0 (fun d s7 wr => d = 0 ∧ w = wr ∧ s7 = .int .i64 0)
  case atStart => exact ⟨rfl, rfl, rfl⟩
  case round =>
    obtain ⟨rfl, rfl, rfl⟩ := hrel
    go_wp2_with fail
    go_ret
    exact ⟨rfl, rfl⟩
set_option maxHeartbeats 4000000 in
theorem index_nil (w : World) (v : Value) : Calls Tryd.prog 94 #[.slice none 0 0, v] w fun e w' => e = .returned (.int .i64 (-1)) ∧ w' = w := by
  go_enter Tryd.func94, Tryd.ntmps94
  go_wp2_with fail
  go_loopg [8] 0 (fun d s7 wr => d = 0 ∧ w = wr ∧ s7 = .int .i64 0)
  case atStart => exact ⟨rfl, rfl, rfl⟩
  case round =>
    obtain ⟨rfl, rfl, rfl⟩ := hrel
    go_wp2_with fail
    go_ret
    exact ⟨rfl, rfl⟩
set_option maxHeartbeats 4000000 in
theorem contains_nil (w : World) (v : Value) : Calls Tryd.prog 81 #[.slice none 0 0, v] w fun e w' => e = .returned (.bool false) ∧ w' = w := by
  go_enter Tryd.func81, Tryd.ntmps81
  go_wp2_with (first
    | (go_at_call 94
       refine (index_nil _ v).mono ?_
       rintro e w' ⟨rfl, rfl⟩)
    | fail)
  go_ret
  exact ⟨rfl, rfl⟩
theorem mkf (fn : Fn) (first cap : Array Value) (w : World) : (Instr.makeFunc fn first cap).run Tryd.prog w = .ok (.func fn first cap) w := rfl

set_option maxHeartbeats 4000000 in
theorem docs_nil (w : World) : Calls Tryd.prog 59 #[.agg #[.slice none 0 0, .slice none 0 0]] w fun e w' => e = .returned (.bool true) ∧ Below w.heap.size w w' := by
  have hmf := mkf
  go_enter Tryd.func59, Tryd.ntmps59
  go_wp2_with fail
  have hb := Blk.new w 61 #[.slice none 0 0, .slice none 0 0]
  have HB := Lib.hid ((Below.refl w.heap.size w).alloc (Nat.le_refl _) (.cells #[.slice none 0 0, .slice none 0 0] 61))
  have cb := hb.cells
  clear hb
  go_loopg [9] 0 (fun d s7 wr => d = 0 ∧ w.alloc (.cells #[.slice none 0 0, .slice none 0 0] 61) = wr ∧ s7 = .int .i64 0)
  case atStart => exact ⟨rfl, rfl, rfl⟩
  case round =>
    obtain ⟨rfl, rfl, rfl⟩ := hrel
    go_wp2_with (first
      | (go_at_call 80
         refine (acl_nil _).mono ?_
         rintro e w' ⟨rfl, rfl⟩)
      | (go_at_call 81
         refine (contains_nil _ _).mono ?_
         rintro e w' ⟨rfl, rfl⟩))
    go_ret
    exact ⟨rfl, HB.out⟩
end Go.Proofs.YtmgandacmhkndaaDoor
