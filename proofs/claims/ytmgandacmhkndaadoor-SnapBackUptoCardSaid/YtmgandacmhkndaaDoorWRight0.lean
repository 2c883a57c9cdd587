/- wire.same; wire.Right of a letter whose head is wrong: their walks. Conditions: the letter's lists read as such. -/
import Derived.Test.YtmgandacmhkndaaDoorWEnt
import Derived.Deep.DeepCutAuto
import Derived.Deep.CutBlock
namespace Go.Proofs.YtmgandacmhkndaaDoor
open Go.RowKit
set_option maxRecDepth 100000

set_option maxHeartbeats 2000000 in
theorem same_any (a1 a5 a6 a7 a8 b1 b5 b6 b7 b8 : Int) (a9 b9 : Bool) (u2 u3 u4 u10 u11 u12 u13 u14 v2 v3 v4 v10 v11 v12 v13 v14 : Value) (w : World) :
    Calls Tryd.prog 46 #[.agg #[.int .i64 a1, u2, u3, u4, .int .i64 a5, .int .i64 a6, .int .i64 a7, .int .i64 a8, .bool a9, u10, u11, u12, u13, u14],
      .agg #[.int .i64 b1, v2, v3, v4, .int .i64 b5, .int .i64 b6, .int .i64 b7, .int .i64 b8, .bool b9, v10, v11, v12, v13, v14]] w fun r w' =>
      r = .returned (.bool (decide (a1 = b1 ∧ a5 = b5 ∧ a6 = b6 ∧ a7 = b7 ∧ a8 = b8 ∧ a9 = b9))) ∧ Below w.heap.size w w' := by
  go_enter Tryd.func46, Tryd.ntmps46
  go_wp2
  all_goals
    go_ret
    refine ⟨ret_b ?_, ((Below.refl _ _).alloc (Nat.le_refl _) _).alloc (by simp) _⟩
    go_light
    grind

set_option maxHeartbeats 4000000 in
theorem right_hdr (m : Let) (x : LMem) (w : World) (hH : Hid (hdrOk m = false)) :
    Calls Tryd.prog 16 #[.agg (lcells m x)] w fun r w' => r = .returned (.bool (rightB m)) ∧ Below w.heap.size w w' := by
  unfold lcells
  go_enter Tryd.func16, Tryd.ntmps16
  go_upto_region 3 with (go_at_call 43; refine (between_any _ _ _ _).mono ?_; rintro r w' ⟨rfl, rfl⟩)
  all_goals first
    | (go_ret; refine ⟨ret_b ?_, (Below.refl _ _).alloc (Nat.le_refl _) _⟩; unfold rightB; rw [hH.out]; rfl)
    | (exfalso; have := hH.out; unfold hdrOk at this; go_light; grind)

end Go.Proofs.YtmgandacmhkndaaDoor
