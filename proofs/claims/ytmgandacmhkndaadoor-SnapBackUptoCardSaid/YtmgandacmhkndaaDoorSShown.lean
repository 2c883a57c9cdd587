/- law13.shown: its walk. Condition: errors.errorType holds the handle of the type error. -/
import Derived.Test.YtmgandacmhkndaaDoorSDec1
import Derived.Test.YtmgandacmhkndaaDoorSFault
import Derived.Test.YtmgandacmhkndaaDoorShown
namespace Go.Proofs.YtmgandacmhkndaaDoor
open Go.RowKit
set_option maxRecDepth 100000
set_option linter.unusedSimpArgs false

theorem get300 : getN [172, 2, 9] = (300, 2) := by rfl
theorem vr2 : ([1] ++ vr 2 ++ [97, 98] : List UInt8) = [1, 2, 97, 98] := by rw [vr_small (by omega)]; rfl

set_option maxHeartbeats 4000000 in
theorem sshown_any (w : World) (hg : ErrT w) : Calls Tryd.prog 21 #[] w fun e w' => e = .returned (.bool true) ∧ Below w.heap.size w w' := by
  have HG := Lib.hid hg
  clear hg
  go_enter Tryd.func21, Tryd.ntmps21
  go_wp2_with fail
  refine (senc_nil _).mono ?_
  rintro e w1 ⟨v1, rfl, hO1, hB1⟩
  obtain ⟨A1, k1, rfl, _, _⟩ := own_slice hO1
  have HO := Lib.hid (Rd.of_own hO1)
  have HB1 := Lib.hid hB1
  clear hB1 hO1
  go_wp2_with fail
  refine (sdec0_any (some ⟨w1.heap.size, 0, none⟩) 2 _ (rd_blk (Blk.new w1 5 _)) (by omega) (by omega)).mono ?_
  rintro e w2 ⟨fb, rfl, hB2, hfb, hF⟩
  have HW2 := Lib.hid (HB1.out.trans (((Below.refl w1.heap.size w1).alloc (Nat.le_refl _) (.cells #[.int .u8 83, .int .u8 0] 5)).trans (hB2.mono (by simp))|>.mono HB1.out.size))
  have hO2 := (HO.out.alloc (.cells #[.int .u8 83, .int .u8 0] 5)).below hB2
  have HF := Lib.hid hF
  have hcv : ∀ o o' : Obj, (convert 24 9 (.slice A1 3 k1)).run Tryd.prog ((w2.alloc o).alloc o') = .ok (.string ⟨[83, 0, 0].toArray⟩) ((w2.alloc o).alloc o') := fun o o' => str_conv A1 k1 [83, 0, 0] ((hO2.alloc o).alloc o')
  have heq : ((⟨[83, 0, 0].toArray⟩ : ByteArray).toList == (⟨#[83, 0, 0]⟩ : ByteArray).toList) = true := by rw [mk_toList]; rfl
  have hq := eq_fault 2 2
  clear hB2 hF hO2 hfb
  go_wp2_with fail
  refine (getN_any (some ⟨w2.heap.size + 1, 0, none⟩) 3 [172, 2, 9] _ (rd_blk (Blk.new1f w2 _ 5 _)) (by decide) (by decide)).mono ?_
  rw [get300]
  rintro e w3 ⟨rfl, rfl⟩
  go_wp2_with fail
  have HW3 := Lib.hid (HW2.out.trans ((((Below.refl w2.heap.size w2).alloc (Nat.le_refl _) (.cells #[.slice none 0 0, .slice none 0 0] 61)).alloc (by rw [alloc_size]; omega) (.cells #[bv 172, bv 2, bv 9] 5)).mono HW2.out.size))
  refine (sfault_any fb 2 _ (HG.out.keep HW3.out) ((HF.out.alloc _).alloc _)).mono ?_
  rintro e w4 ⟨rfl, hB4⟩
  have HW4 := Lib.hid (HW3.out.trans (hB4.mono HW3.out.size))
  clear hB4 hcv heq
  go_wp2_with fail
  have hP := putT_any (some ⟨w4.heap.size, 0, none⟩) 1 [1] ⟨#[97, 98]⟩ _ (rd_blk (Blk.new w4 5 _)) (by decide) (by decide)
  rw [show (⟨#[97, 98]⟩ : ByteArray).size = 2 from rfl, show (⟨#[97, 98]⟩ : ByteArray).data.toList = [97, 98] from rfl, vr2] at hP
  refine hP.mono ?_
  rintro e w5 ⟨v5, rfl, hO5, hB5⟩
  obtain ⟨A5, k5, rfl, _, _⟩ := own_slice hO5
  have hcv : (convert 24 9 (.slice A5 4 k5)).run Tryd.prog w5 = .ok (.string ⟨[1, 2, 97, 98].toArray⟩) w5 := str_conv A5 k5 [1, 2, 97, 98] (Rd.of_own hO5)
  have heq : ((⟨[1, 2, 97, 98].toArray⟩ : ByteArray).toList == (⟨#[1, 2, 97, 98]⟩ : ByteArray).toList) = true := by rw [mk_toList]; rfl
  have HW5 := Lib.hid (HW4.out.trans (((Below.refl w4.heap.size w4).alloc (Nat.le_refl _) (.cells #[.int .u8 1] 5)).trans (hB5.mono (by simp))|>.mono HW4.out.size))
  clear hB5 hO5 hP
  go_wp2_with fail
  go_ret
  exact ⟨rfl, HW5.out⟩
end Go.Proofs.YtmgandacmhkndaaDoor
