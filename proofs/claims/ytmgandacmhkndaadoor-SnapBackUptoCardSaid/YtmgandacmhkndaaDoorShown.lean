/- law17.shown: its walk. Condition: errors.errorType holds the handle of the type error. -/
import Derived.Test.YtmgandacmhkndaaDoorFault
import Derived.Test.YtmgandacmhkndaaDoorLaw2
import Derived.Test.YtmgandacmhkndaaDoorSame3
import Derived.Laws.StructEq
namespace Go.Proofs.YtmgandacmhkndaaDoor
open Go.RowKit
set_option maxRecDepth 100000
set_option linter.unusedSimpArgs false

def m0 : Let := ⟨2, 1, 2, 3, 0, 0, 0, 0, true, [], ⟨0, 0, [], []⟩⟩
theorem m0_right : rightB m0 = true := by decide
theorem m0_enc : encF m0 = [2, 1, 2, 3, 1] := by
  simp [encF, encHead, encBody, m0, vrs, vr_small, bit1]
theorem b0_dec : decF [2, 9] = .error 1 := by rfl
theorem m0_rd (w : World) : LetRd w m0 None3 := ⟨.inl rfl, .inl rfl, .inl rfl, by decide, by decide, by decide, by decide, by decide, by decide⟩
/-- '==' of two faults, and '!='. -/
theorem fault_at (p q : Int) (w : World) : (part 3 #[.int .i64 p, .int .i64 q] 0).run Tryd.prog w = .ok (.int .i64 p) w := by kernel_rfl
theorem fault_err (p q : Int) (w : World) : (part 31 #[.int .i64 p, .int .i64 q] 1).run Tryd.prog w = .ok (.int .i64 q) w := by kernel_rfl
theorem eqi_int (d : Nat) (p q : Int) (w : World) : (Op.equalIn (d + 1) 3 (.int .i64 p) (.int .i64 q)).run Tryd.prog w = .ok (p == q) w := by
  simp [Op.equalIn, run_underlying Tryd.underlying3]
theorem eqi_errno (d : Nat) (p q : Int) (w : World) : (Op.equalIn (d + 1) 31 (.int .i64 p) (.int .i64 q)).run Tryd.prog w = .ok (p == q) w := by
  simp [Op.equalIn, run_underlying Tryd.underlying31]
theorem eqIn_fault (d : Nat) (p q : Int) (w : World) : (Op.equalIn (d + 2) 42 (.agg #[.int .i64 p, .int .i64 12]) (.agg #[.int .i64 q, .int .i64 12])).run Tryd.prog w = .ok (p == q) w := by
  have hu := Tryd.underlying42
  have hf : ∀ fs, Tryd.prog.underlying 42 = some (.struct fs) → Tryd.prog.fieldsOf 42 = fs := fun fs h => by simp [Program.fieldsOf, h]
  have hf2 := hf _ hu
  rw [run_equalIn_struct (P := Tryd.prog) w (d + 1) 42 _ _ (by rw [hf2]; exact hu) (by kernel_rfl), hf2]
  simp only [Op.eqFields, Sem.run_bind, fault_at, fault_err, eqi_int, eqi_errno, Result.andThen_ok]
  cases h : (p == q) <;> simp [Op.eqFields, fault_at, fault_err, eqi_int, eqi_errno] <;> simpa using h
theorem eq_fault (p q : Int) (w : World) : (binOp .eql 42 (.agg #[.int .i64 p, .int .i64 12]) (.agg #[.int .i64 q, .int .i64 12])).run Tryd.prog w = .ok (.bool (p == q)) w := by
  simp only [binOp]
  simp [Op.equal, Op.maxDepth, eqIn_fault 9998]
theorem neq_fault (p q : Int) (w : World) : (binOp .neq 42 (.agg #[.int .i64 p, .int .i64 12]) (.agg #[.int .i64 q, .int .i64 12])).run Tryd.prog w = .ok (.bool (p != q)) w := by
  simp only [binOp]
  simp [Op.equal, Op.maxDepth, eqIn_fault 9998, bne]

set_option maxHeartbeats 4000000 in
theorem shown_any (w : World) (hg : ErrT w) : Calls Tryd.prog 11 #[] w fun e w' => e = .returned (.bool true) ∧ Below w.heap.size w w' := by
  have HG := Lib.hid hg
  clear hg
  go_enter Tryd.func11, Tryd.ntmps11
  go_wp2_with fail
  refine (enc_any m0 None3 _ (m0_rd _)).mono ?_
  rintro e w1 ⟨hB1, hp⟩
  rw [if_pos m0_right] at hp
  obtain ⟨v1, rfl, hO1⟩ := hp
  rw [m0_enc] at hO1
  obtain ⟨A1, k1, rfl, _, _⟩ := own_slice hO1
  have HM := Lib.hid ((Blk.new w 28 (lcells m0 None3)).keep hB1)
  have HO := Lib.hid (Rd.of_own hO1)
  have HB1 := Lib.hid (((Below.refl w.heap.size w).alloc (Nat.le_refl _) (.cells (lcells m0 None3) 28)).trans (hB1.mono (by simp)))
  clear hB1 hO1
  go_wp2_with fail
  refine (dec_any [2, 9] _ 2 _ (rd_blk (Blk.new w1 5 _)) (by simp)).mono ?_
  rintro e w2 ⟨hB2, h2⟩
  rw [b0_dec] at h2
  obtain ⟨m, x, h, _⟩ | ⟨p, fb, h, rfl, hfb, hF⟩ := h2
  · cases h
  injection h with h
  subst h
  have HW2 := Lib.hid (HB1.out.trans (((Below.refl w1.heap.size w1).alloc (Nat.le_refl _) (.cells #[.int .u8 2, .int .u8 9] 5)).trans (hB2.mono (by simp))|>.mono HB1.out.size))
  have hM2 := (HM.out.alloc (.cells #[.int .u8 2, .int .u8 9] 5)).keep hB2
  have cm : ∀ i, _ := hM2.cells
  have hO2 := (HO.out.alloc (.cells #[.int .u8 2, .int .u8 9] 5)).below hB2
  have HF := Lib.hid hF
  have HM2 := Lib.hid hM2
  have hcv : ∀ o : Obj, (convert 24 9 (.slice A1 5 k1)).run Tryd.prog (w2.alloc o) = .ok (.string ⟨[2, 1, 2, 3, 1].toArray⟩) (w2.alloc o) := fun o => str_conv A1 k1 [2, 1, 2, 3, 1] (hO2.alloc o)
  have cm2 := fun o : Obj => (hM2.alloc o).cells
  unfold lcells m0 None3 at cm2
  have heq : ((⟨[2, 1, 2, 3, 1].toArray⟩ : ByteArray).toList == (⟨#[2, 1, 2, 3, 1]⟩ : ByteArray).toList) = true := by rw [mk_toList]; rfl
  have hq := eq_fault 1 1
  clear hB2 hF cm hM2 hO2
  unfold zero14
  go_wp2_with fail
  refine (right_any m0 None3 _ (m0_rd _)).mono ?_
  rw [m0_right]
  rintro e w3 ⟨rfl, hB3⟩
  have HB3 := Lib.hid hB3
  clear hB3 hcv cm2
  go_wp2_with fail
  have HW3 := Lib.hid (HW2.out.trans ((((Below.refl w2.heap.size w2).alloc (Nat.le_refl _) (.cells zero14 28)).trans (HB3.out.mono (by simp))).mono HW2.out.size))
  refine (fault_any fb 1 _ (HG.out.keep HW3.out) ((HF.out.alloc (.cells zero14 28)).keep HB3.out)).mono ?_
  rintro e w4 ⟨rfl, hB4⟩
  have HB4 := Lib.hid hB4
  clear hB4
  go_wp2_with fail
  go_ret
  exact ⟨rfl, HW3.out.trans (HB4.out.mono HW3.out.size)⟩
end Go.Proofs.YtmgandacmhkndaaDoor
