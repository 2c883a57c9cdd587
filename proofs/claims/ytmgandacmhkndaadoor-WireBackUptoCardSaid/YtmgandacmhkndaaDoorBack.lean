/- law17.WireBack: its walk. Conditions: errors.errorType holds the handle of the type error; the letter's lists and the bytes read as such. -/
import Derived.Test.YtmgandacmhkndaaDoorApart
import Derived.Test.YtmgandacmhkndaaDoorBounds
namespace Go.Proofs.YtmgandacmhkndaaDoor
open Go.RowKit
set_option maxRecDepth 100000
set_option linter.unusedSimpArgs false

def mz : Let := ⟨0, 0, 0, 0, 0, 0, 0, 0, false, [], ⟨0, 0, [], []⟩⟩
theorem mz_rd (w : World) : LetRd w mz None3 := ⟨.inl rfl, .inl rfl, .inl rfl, by decide, by decide, by decide, by decide, by decide, by decide⟩
/-- An error of Decode's. -/
theorem dec_err {b : List UInt8} {w : World} {e : Ending} {w' : World} (h : DecPost b w e w') (hn : ∀ m, decF b ≠ .ok m) :
    Below w.heap.size w w' ∧ ∃ fb, e = .returned (.tuple #[.agg zero14, .iface 84 (.pointer (some ⟨fb, 0, none⟩))]) := by
  obtain ⟨hb, ⟨m, x, h, _⟩ | ⟨p, fb, _, h, _⟩⟩ := h
  · exact absurd h (hn m)
  · exact ⟨hb, fb, h⟩
theorem own_built {W : World} {g : Nat} (h : Blk W g 5 #[]) {base : Nat} (hb : base ≤ g) : OwnB W base (.slice (some ⟨g, 0, none⟩) 0 0) [] :=
  ⟨by simp, .inr ⟨g, 0, #[], rfl, hb, h, Nat.le_refl _, Nat.zero_le _, by simp, by simp⟩⟩
theorem take_len {l : List UInt8} {k : Nat} (h : k < l.length) : (l.take k).length = k := by simp; omega

set_option maxHeartbeats 16000000 in
theorem back_any (m : Let) (x : LMem) (Ab : Option Addr) (cb : Nat) (bl : List UInt8) (cut : Int) (w : World) (hg : ErrT w) (hm : LetRd w m x) (hb : Rd w Ab (bvs bl)) (hbl : bl.length ≤ 1048576)
    (hc0 : -9223372036854775808 ≤ cut) (hc1 : cut ≤ 9223372036854775807) :
    Calls Tryd.prog 4 #[.agg (lcells m x), .slice Ab bl.length cb, .int .i64 cut] w fun e w' => e = .returned (.bool true) ∧ Below w.heap.size w w' := by
  have HG := Lib.hid hg
  have HM := Lib.hid hm
  have Hb := Lib.hid hb
  have HK0 := Lib.hid (Blk.new w 28 (lcells m x))
  have HW0 := Lib.hid ((Below.refl w.heap.size w).alloc (Nat.le_refl _) (.cells (lcells m x) 28))
  clear hg hm hb
  unfold lcells
  go_enter Tryd.func4, Tryd.ntmps4
  go_wp2_with fail
  refine (shown_any _ (HG.out.keep HW0.out)).mono ?_
  rintro e w1 ⟨rfl, hb1⟩
  have HW1 := Lib.hid (HW0.out.trans (hb1.mono HW0.out.size))
  have HK1 := Lib.hid (HK0.out.keep hb1)
  have c1 := (HK0.out.keep hb1).cells
  unfold lcells at c1
  clear hb1
  go_wp2_with fail
  refine (large_any m x w1 (HM.out.below HW1.out)).mono ?_
  rintro e w2 ⟨⟨q1, rfl⟩, hb2⟩
  have HW2 := Lib.hid (HW1.out.trans (hb2.mono HW1.out.size))
  have HK2 := Lib.hid (HK1.out.keep hb2)
  have c2 := (HK1.out.keep hb2).cells
  unfold lcells at c2
  clear hb2 c1
  cases q1
  rotate_left
  · go_wp2_with fail
    go_ret
    exact ⟨rfl, HW2.out⟩
  go_wp2_with fail
  refine (enc_any m x w2 (HM.out.below HW2.out)).mono ?_
  rintro e w3 ⟨hb3, hp3⟩
  have HW3 := Lib.hid (HW2.out.trans (hb3.mono HW2.out.size))
  have HK3 := Lib.hid (HK2.out.keep hb3)
  have c3 := (HK2.out.keep hb3).cells
  unfold lcells at c3
  clear hb3 c2
  cases hR : rightB m
  · rw [hR] at hp3
    simp only [Bool.false_eq_true, if_false] at hp3
    obtain rfl := hp3
    have HR := Lib.hid hR
    clear hR
    go_wp2_with fail
    refine (right_any m x w3 (HM.out.below HW3.out)).mono ?_
    rw [HR.out]
    rintro e wc ⟨rfl, hb4⟩
    have HWc := Lib.hid (HW3.out.trans (hb4.mono HW3.out.size))
    clear hb4 c3
    go_wp2_with fail
    refine (dec_any bl Ab cb _ (Hb.out.below HWc.out) hbl).mono ?_
    rintro e w20 ⟨hb20, ⟨m', x', hd, rfl, hF⟩ | ⟨p, fb, hd, rfl, _, _⟩⟩
    · obtain ⟨hRm, hEm⟩ := dec_inv hd
      have HW20 := Lib.hid (HWc.out.trans (hb20.mono HWc.out.size))
      have HF := Lib.hid hF.rd
      have c20 := (Blk.new w20 28 (lcells m' x')).cells
      unfold lcells at c20
      unfold lcells
      have HRm := Lib.hid hRm
      have HEm := Lib.hid hEm
      clear hd hF hRm hEm hb20
      go_wp2_with fail
      refine (enc_any m' x' _ (HF.out.below ((Below.refl _ _).alloc (Nat.le_refl _) _))).mono ?_
      rintro e w21 ⟨hb21, hp⟩
      rw [if_pos HRm.out, HEm.out] at hp
      obtain ⟨v21, rfl, hO⟩ := hp
      obtain ⟨A21, k21, rfl, _, _⟩ := own_slice hO
      have HB21 := Lib.hid (HW20.out.trans ((((Below.refl w20.heap.size w20).alloc (Nat.le_refl _) (.cells (lcells m' x') 28)).trans (hb21.mono (by simp))).mono HW20.out.size))
      have v1 := str_conv A21 k21 bl (Rd.of_own hO)
      have v2 := str_conv Ab cb bl (Hb.out.below HB21.out)
      clear hb21 hO c20
      go_wp2_with fail
      all_goals
        go_ret
        refine ⟨ret_b ?_, HB21.out⟩
        simp
    · have HW20 := Lib.hid (HWc.out.trans (hb20.mono HWc.out.size))
      have c20 := (Blk.new w20 28 zero14).cells
      unfold zero14 at c20
      unfold zero14
      clear hb20 hd
      go_wp2_with fail
      refine (same17_any mz mz None3 None3 _ (mz_rd _) (mz_rd _)).mono ?_
      rw [decide_eq_true rfl]
      rintro e w21 ⟨rfl, hb21⟩
      have HB21 := Lib.hid (HW20.out.trans ((((Below.refl w20.heap.size w20).alloc (Nat.le_refl _) (.cells zero14 28)).trans (hb21.mono (by simp))).mono HW20.out.size))
      clear hb21 c20
      go_wp2_with fail
      go_ret
      exact ⟨rfl, HB21.out⟩
  · rw [if_pos hR] at hp3
    obtain ⟨v3, rfl, hO3⟩ := hp3
    have HR := Lib.hid hR
    have hlen := encF_le hR
    have hpos := enc_len (m := m)
    obtain ⟨g3, k3, hv3, _, _⟩ := hO3.form (by rw [List.length_map]; exact hpos)
    rw [List.length_map] at hv3
    have hcap := hO3.2
    subst hv3
    have HO3 := Lib.hid hO3
    have HD3 := Lib.hid (Rd.of_own (by have h := hO3; unfold OwnB at h; rw [List.length_map] at h; exact h))
    clear hR hO3 hcap
    obtain ⟨B, hB⟩ : ∃ B, B = encF m := ⟨_, rfl⟩
    rw [← hB] at HO3 HD3 hlen hpos ⊢
    have HB := Lib.hid hB
    clear hB
    go_wp2_with fail
    refine (right_any m x w3 (HM.out.below HW3.out)).mono ?_
    rw [HR.out]
    rintro e w4 ⟨rfl, hb4⟩
    have HW4 := Lib.hid (HW3.out.trans (hb4.mono HW3.out.size))
    have HK4 := Lib.hid (HK3.out.keep hb4)
    have HD4 := Lib.hid (HD3.out.below hb4)
    clear hb4 c3
    go_wp2_with fail
    refine (dec_any B _ k3 w4 HD4.out (by omega)).mono ?_
    rw [HB.out]
    rintro e w5 ⟨hb5, h5⟩
    rw [dec_enc HR.out] at h5
    obtain ⟨m', x', h, rfl, hF5⟩ | ⟨p, fb, h, _⟩ := h5
    rotate_left
    · cases h
    injection h with h
    subst h
    rw [← HB.out]
    have HW5 := Lib.hid (HW4.out.trans (hb5.mono HW4.out.size))
    have HK5 := Lib.hid (HK4.out.keep hb5)
    have HD5 := Lib.hid (HD4.out.below hb5)
    have HF5 := Lib.hid hF5.rd
    have c5 := fun o : Obj => (HK5.out.alloc o).cells
    have d5 := (Blk.new w5 28 (lcells m x')).cells
    unfold lcells at c5 d5
    unfold lcells
    clear hb5 hF5
    go_wp2_with fail
    refine (same17_any m m x' x _ (HF5.out.below ((Below.refl _ _).alloc (Nat.le_refl _) _)) (HM.out.below (HW5.out.alloc HW5.out.size _))).mono ?_
    rw [decide_eq_true rfl]
    rintro e w6 ⟨rfl, hb6⟩
    have HA6 := Lib.hid (((Below.refl w5.heap.size w5).alloc (Nat.le_refl _) (.cells (lcells m x') 28)).trans (hb6.mono (by simp)))
    have HW6 := Lib.hid (HW5.out.trans (HA6.out.mono HW5.out.size))
    have HD6 := Lib.hid (HD5.out.below HA6.out)
    clear hb6 c5 d5
    go_upto_if 57 with fail
    go_cut [2] (fun s wx => ∃ z : Nat, s = .int .i64 z ∧ (z : Int) ≤ 9223372036854775807 ∧ wx = w6)
    case first =>
      by_cases hneg : cut < 0
      · go_wp2_with fail
        go_meet
        exact ⟨(-(cut + 1)).toNat, by congr 1; omega, by omega, rfl⟩
      · go_wp2_with fail
        go_meet
        exact ⟨cut.toNat, by congr 1; omega, by omega, rfl⟩
    case rest =>
      obtain ⟨z, rfl, hz, rfl⟩ := hcut
      obtain ⟨k, hk⟩ : ∃ k, k = z % B.length := ⟨_, rfl⟩
      have hkl : k < B.length := by rw [hk]; exact Nat.mod_lt _ hpos
      have hrem : (z : Int) % (B.length : Int) = (k : Int) := by rw [hk]; simp
      have hle : B.length ≤ k3 := by
        obtain ⟨A', c', hv', hl', _⟩ := own_slice HO3.out
        injection hv' with _ _ e3
        rw [List.length_map] at hl'
        omega
      have hkc : (k : Int) ≤ (k3 : Int) := by omega
      clear hk
      go_wp2_with fail
      have hds := dec_any (B.take k) (some ⟨g3, 0, none⟩) k3 wc (by have := HD6.out.take_ k; rw [← List.map_take] at this; exact this) (by rw [take_len hkl]; omega)
      rw [take_len hkl] at hds
      refine hds.mono ?_
      intro e w7 h7
      obtain ⟨hb7, fb7, rfl⟩ := dec_err h7 (dec_short (q := B.drop k) HR.out (by rw [← HB.out, List.take_append_drop]) (by intro h; have := congrArg List.length h; rw [List.length_drop, List.length_nil] at this; omega))
      have HW7 := Lib.hid (HW6.out.trans (hb7.mono HW6.out.size))
      have HD7 := Lib.hid (HD6.out.below hb7)
      clear hds h7 hb7 hrem
      unfold zero14
      go_wp2_with (first
        | (at_builtin
           have tok := HE9
           refine wpList_append_rd _ rfl (.tmp 74) (.tmp 77) 24 rfl w7.heap.size 5 _ 1 Tryd.underlying24 info_u8 rfl _ (bvs B) (some ⟨w9.heap.size, 0, none⟩) 1 1 [_] rfl rfl rfl (own_below HE9.out.own ((Below.refl _ _).alloc (Nat.le_refl _) _)) (rd_blk (Blk.new _ _ _)) ?b1 ?b2 ?b3 ?b4 ?_
           rotate_left 4
           intro v10 w10 happ
           have HE10 := Lib.hid happ
           clear happ)
        | (at_builtin
           refine wpList_append_rd _ rfl (.tmp 72) (.tmp 73) 24 rfl w7.heap.size 5 _ 1 Tryd.underlying24 info_u8 rfl _ (bvs []) (some ⟨g3, 0, none⟩) B.length k3 (bvs B) rfl rfl ?a1 ?a2 ?a3 ?a4 ?a5 ?a6 ?a7 ?_
           rotate_left 7
           intro v9 w9 happ
           have HE9 := Lib.hid (show AppB w7.heap.size _ _ w9 v9 B from happ)
           clear happ))
      case a1 => simp
      case a2 => exact own_built (Blk.new1 _ _ _ _) (by omega)
      case a3 => exact (HD7.out.alloc _).alloc _
      case a4 => exact one_bv _
      case a5 => simp only [maxLen, List.length_map, List.length_nil]; omega
      case a6 => simp only [List.length_map, List.length_nil]; omega
      case a7 => rw [alloc_size, alloc_size]; omega
      case b1 => simp [Value.oneCell']
      case b2 => simp only [maxLen, List.length_map, List.length_cons, List.length_nil]; omega
      case b3 => simp only [List.length_map, List.length_cons, List.length_nil]; omega
      case b4 =>
        have h := HE9.out.grown.size
        rw [alloc_size, alloc_size] at h
        rw [alloc_size]; omega
      have s9 := HE9.out.grown.size
      rw [alloc_size, alloc_size] at s9
      have hb9 : Below w7.heap.size w7 w9 := (((Below.refl _ _).alloc (Nat.le_refl _) _).alloc (by rw [alloc_size]; omega) _).trans (HE9.out.below (own_built (Blk.new1 _ _ _ _) (by omega)) (by rw [alloc_size, alloc_size]; omega) (Nat.le_refl _))
      have hb10 : Below w7.heap.size w9 w10 := HE10.out.alloc.below HE9.out.own (by omega) (Nat.le_refl _)
      obtain ⟨y, hy⟩ : ∃ y : UInt8, ((z : Int) % 256) = (y.toNat : Int) := ⟨UInt8.ofNat (z % 256), by rw [toNat_of (by omega)]; omega⟩
      have ho10 : OwnB w10 w7.heap.size v10 (B ++ [y]) := by
        have h := HE10.out.own
        have e : bvs B ++ [Value.int .u8 ((z : Int) % 256)] = bvs (B ++ [y]) := by simp [bv, hy]
        rw [e] at h; exact h
      obtain ⟨A10, k10, hv10, _, _⟩ := own_slice ho10
      rw [List.length_map] at hv10
      have hds := dec_any (B ++ [y]) A10 k10 w10 (Rd.of_own (by have h := ho10; unfold OwnB at h; rw [hv10, List.length_map] at h; exact h)) (by rw [List.length_append, List.length_singleton]; omega)
      rw [← hv10] at hds
      refine hds.mono ?_
      intro e w11 h11
      obtain ⟨hb11, fb11, rfl⟩ := dec_err h11 (by rw [HB.out]; exact dec_more HR.out y)
      have HWc := Lib.hid ((HW7.out.trans ((hb9.trans (hb10.trans (hb11.mono (by have := hb9.size; have := hb10.size; omega)))).mono HW7.out.size)).alloc (by have := HW7.out.size; have := hb9.size; have := hb10.size; have := hb11.size; omega) (.cells zero14 28))
      clear hds h11 hb11 ho10 hv10 hb9 hb10 s9 hy HE9 HE10
      unfold zero14 at HWc
      unfold zero14
      go_wp2_with fail
      refine (dec_any bl Ab cb _ (Hb.out.below HWc.out) hbl).mono ?_
      rintro e w20 ⟨hb20, ⟨m', x', hd, rfl, hF⟩ | ⟨p, fb, hd, rfl, _, _⟩⟩
      · obtain ⟨hRm, hEm⟩ := dec_inv hd
        have HW20 := Lib.hid (HWc.out.trans (hb20.mono HWc.out.size))
        have HF := Lib.hid hF.rd
        have c20 := (Blk.new w20 28 (lcells m' x')).cells
        unfold lcells at c20
        unfold lcells
        have HRm := Lib.hid hRm
        have HEm := Lib.hid hEm
        clear hd hF hRm hEm hb20
        go_wp2_with fail
        refine (enc_any m' x' _ (HF.out.below ((Below.refl _ _).alloc (Nat.le_refl _) _))).mono ?_
        rintro e w21 ⟨hb21, hp⟩
        rw [if_pos HRm.out, HEm.out] at hp
        obtain ⟨v21, rfl, hO⟩ := hp
        obtain ⟨A21, k21, rfl, _, _⟩ := own_slice hO
        have HB21 := Lib.hid (HW20.out.trans ((((Below.refl w20.heap.size w20).alloc (Nat.le_refl _) (.cells (lcells m' x') 28)).trans (hb21.mono (by simp))).mono HW20.out.size))
        have v1 := str_conv A21 k21 bl (Rd.of_own hO)
        have v2 := str_conv Ab cb bl (Hb.out.below HB21.out)
        clear hb21 hO c20
        go_wp2_with fail
        all_goals
          go_ret
          refine ⟨ret_b ?_, HB21.out⟩
          simp
      · have HW20 := Lib.hid (HWc.out.trans (hb20.mono HWc.out.size))
        have c20 := (Blk.new w20 28 zero14).cells
        unfold zero14 at c20
        unfold zero14
        clear hb20 hd
        go_wp2_with fail
        refine (same17_any mz mz None3 None3 _ (mz_rd _) (mz_rd _)).mono ?_
        rw [decide_eq_true rfl]
        rintro e w21 ⟨rfl, hb21⟩
        have HB21 := Lib.hid (HW20.out.trans ((((Below.refl w20.heap.size w20).alloc (Nat.le_refl _) (.cells zero14 28)).trans (hb21.mono (by simp))).mono HW20.out.size))
        clear hb21 c20
        go_wp2_with fail
        go_ret
        exact ⟨rfl, HB21.out⟩
end Go.Proofs.YtmgandacmhkndaaDoor
