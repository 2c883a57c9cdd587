/- law13.SnapBack: its walk. Conditions: errors.errorType holds the handle of the type error; the bytes read as such. -/
import Derived.Test.YtmgandacmhkndaaDoorSShown
import Derived.Test.YtmgandacmhkndaaDoorSLaw
namespace Go.Proofs.YtmgandacmhkndaaDoor
open Go.RowKit
set_option maxRecDepth 100000
set_option linter.unusedSimpArgs false

theorem take_len2 {l : List UInt8} {k : Nat} (h : k < l.length) : (l.take k).length = k := by simp; omega
set_option maxHeartbeats 16000000 in
theorem sback_any (n : Nat) (s : ByteArray) (Ab : Option Addr) (cb : Nat) (bl : List UInt8) (cut : Int) (w : World) (hg : ErrT w) (hn : n < 18446744073709551616) (hs : s.size ≤ 1048576) (hb : Rd w Ab (bvs bl)) (hbl : bl.length ≤ 1048576)
    (hc0 : -9223372036854775808 ≤ cut) (hc1 : cut ≤ 9223372036854775807) :
    Calls Tryd.prog 8 #[.int .u64 n, .string s, .slice Ab bl.length cb, .int .i64 cut] w fun e w' => e = .returned (.bool true) ∧ Below w.heap.size w w' := by
  have HG := Lib.hid hg
  have Hb := Lib.hid hb
  clear hg hb
  obtain ⟨L, hL⟩ : ∃ L, L = vr n := ⟨_, rfl⟩
  obtain ⟨T, hT⟩ : ∃ T, T = txt s := ⟨_, rfl⟩
  have hl10 : L.length ≤ 10 := by rw [hL]; exact vr_len64 hn
  have hl1 : 1 ≤ L.length := by rw [hL]; exact vr_pos n
  have ht10 : T.length ≤ 10 + s.size := by rw [hT, txt_len]; have := vr_len64 (n := s.size) (by omega); omega
  have ht1 : 1 ≤ T.length := by rw [hT, txt_len]; have := vr_pos s.size; omega
  obtain ⟨M, hM⟩ : ∃ M, M = L ++ bl := ⟨_, rfl⟩
  obtain ⟨U, hU⟩ : ∃ U, U = T ++ bl := ⟨_, rfl⟩
  have hml : M.length = L.length + bl.length := by rw [hM, List.length_append]
  have hul : U.length = T.length + bl.length := by rw [hU, List.length_append]
  have hgM : getN M = (n, L.length) := by rw [hM, hL]; exact getN_vr hn _
  have hgU : getT U s.size = (s.data.toList, T.length) := by rw [hU, hT]; exact getT_txt (by omega) _
  have hgB : (getT T ((s.size : Int) - 1)).2 = 0 := by rw [hT]; exact getT_big (by omega)
  have HCN := Lib.hid (fun (i : Nat) (h : i < L.length) => (show (getN (L.take i)).2 = 0 by rw [hL] at h ⊢; exact getN_cut hn h))
  have HCT := Lib.hid (fun (i : Nat) (h : i < T.length) => (show (getT (T.take i) (s.size : Int)).2 = 0 by rw [hT] at h ⊢; exact getT_cut (by omega) h))
  have HL := Lib.hid hL
  have HT := Lib.hid hT
  have HM := Lib.hid hM
  have HU := Lib.hid hU
  have HML := Lib.hid hml
  have HUL := Lib.hid hul
  have HGM := Lib.hid hgM
  have HGU := Lib.hid hgU
  have HGB := Lib.hid hgB
  clear hL hT hM hU hml hul hgM hgU hgB
  go_enter Tryd.func8, Tryd.ntmps8
  go_wp2_with fail
  refine (sshown_any _ HG.out).mono ?_
  rintro e w1 ⟨rfl, hb1⟩
  have HW1 := Lib.hid hb1
  clear hb1
  go_wp2_with fail
  have hp := putN_any none 0 [] n w1 (Rd.nil_ _ _) (by decide) (by omega)
  rw [List.nil_append, ← HL.out] at hp
  refine hp.mono ?_
  rintro e w2 ⟨v2, rfl, hO2, hb2⟩
  obtain ⟨A2, k2, rfl, hk2, hm2⟩ := own_slice hO2
  simp only [maxLen] at hm2
  have HD2 := Lib.hid (Rd.of_own hO2)
  have HW2 := Lib.hid (HW1.out.trans (hb2.mono HW1.out.size))
  rw [List.length_map] at hk2 ⊢
  have HX2 := Lib.hid (Hb.out.below HW2.out)
  clear hb2 hO2 hp
  go_wp2_with (first
    | (at_builtin
       have tok := HE3
       refine wpList_append_rd _ rfl (.tmp 28) (.tmp 29) 24 rfl w2.heap.size 5 _ 1 Tryd.underlying24 info_u8 rfl _ (bvs L) Ab bl.length cb (bvs bl) rfl rfl ?b1 HE3.out.own ?b3 ?b4 ?b5 ?b6 ?b7 ?_
       rotate_left 6
       intro v4 w4 happ
       have HE4 := Lib.hid (show AppB w2.heap.size _ _ w4 v4 M from by rw [HM.out]; unfold AppB; rw [bvs_app]; exact happ)
       clear happ)
    | (at_builtin
       refine wpList_append_rd _ rfl (.tmp 26) (.tmp 27) 24 rfl w2.heap.size 5 _ 1 Tryd.underlying24 info_u8 rfl _ (bvs []) A2 L.length k2 (bvs L) rfl rfl ?a1 ?a2 ?a3 ?a4 ?a5 ?a6 ?a7 ?_
       rotate_left 7
       intro v3 w3 happ
       have HE3 := Lib.hid (show AppB w2.heap.size _ _ w3 v3 L from happ)
       have HB3 := Lib.hid (((Below.refl w2.heap.size w2).alloc (Nat.le_refl _) (.cells #[] 5)).trans (happ.below (own_built (Blk.new _ _ _) (Nat.le_refl _)) (by rw [alloc_size]; omega) (Nat.le_refl _)))
       clear happ))
  case a1 => simp
  case a2 => exact own_built (Blk.new _ _ _) (Nat.le_refl _)
  case a3 => exact HD2.out.alloc _
  case a4 => exact one_bv _
  case a5 => simp only [maxLen, List.length_map, List.length_nil]; omega
  case a6 => simp only [List.length_map, List.length_nil]; omega
  case a7 => rw [alloc_size]; omega
  case b1 => simp
  case b3 => exact HX2.out.below HB3.out
  case b4 => exact one_bv _
  case b5 => simp only [maxLen, List.length_map]; omega
  case b6 => simp only [List.length_map]; omega
  case b7 => exact HB3.out.size
  have HW4 := Lib.hid (HW2.out.trans ((HB3.out.trans (HE4.out.below HE3.out.own HB3.out.size (Nat.le_refl _))).mono HW2.out.size))
  have HB4 := Lib.hid (HB3.out.trans (HE4.out.below HE3.out.own HB3.out.size (Nat.le_refl _)))
  obtain ⟨A4, k4, hv4, hk4, hm4⟩ := own_slice HE4.out.own
  have hO4 := HE4.out.own
  rw [List.length_map] at hv4 hk4 hO4
  subst hv4
  simp only [maxLen] at hm4
  have HD4 := Lib.hid (Rd.of_own hO4)
  clear hO4 HE3 HE4
  refine (getN_any A4 k4 M w4 HD4.out hk4 (by omega)).mono ?_
  rw [HGM.out]
  rintro e w5 ⟨rfl, rfl⟩
  have HD5 := Lib.hid (HD2.out.below HB4.out)
  clear HD4 HD2 HB3 HB4 HX2
  go_wp2_with fail
  have hp := putT_any none 0 [] s w4 (Rd.nil_ _ _) (by decide) (by omega)
  rw [List.nil_append, show vr s.size ++ s.data.toList = T from HT.out.symm] at hp
  refine hp.mono ?_
  rintro e w6 ⟨v6, rfl, hO6, hb6⟩
  obtain ⟨A6, k6, rfl, hk6, hm6⟩ := own_slice hO6
  have HD6 := Lib.hid (Rd.of_own hO6)
  have HW6 := Lib.hid (HW4.out.trans (hb6.mono HW4.out.size))
  have HL6 := Lib.hid (HD5.out.below hb6)
  rw [List.length_map] at hk6 ⊢
  simp only [maxLen] at hm6
  have HX6 := Lib.hid (Hb.out.below HW6.out)
  clear hb6 hO6 hp
  go_wp2_with (first
    | (at_builtin
       have tok := HE7
       refine wpList_append_rd _ rfl (.tmp 39) (.tmp 40) 24 rfl w6.heap.size 5 _ 1 Tryd.underlying24 info_u8 rfl _ (bvs T) Ab bl.length cb (bvs bl) rfl rfl ?d1 HE7.out.own ?d3 ?d4 ?d5 ?d6 ?d7 ?_
       rotate_left 6
       intro v8 w8 happ
       have HE8 := Lib.hid (show AppB w6.heap.size _ _ w8 v8 U from by rw [HU.out]; unfold AppB; rw [bvs_app]; exact happ)
       clear happ)
    | (at_builtin
       refine wpList_append_rd _ rfl (.tmp 37) (.tmp 38) 24 rfl w6.heap.size 5 _ 1 Tryd.underlying24 info_u8 rfl _ (bvs []) A6 T.length k6 (bvs T) rfl rfl ?c1 ?c2 ?c3 ?c4 ?c5 ?c6 ?c7 ?_
       rotate_left 7
       intro v7 w7 happ
       have HE7 := Lib.hid (show AppB w6.heap.size _ _ w7 v7 T from happ)
       have HB7 := Lib.hid (((Below.refl w6.heap.size w6).alloc (Nat.le_refl _) (.cells #[] 5)).trans (happ.below (own_built (Blk.new _ _ _) (Nat.le_refl _)) (by rw [alloc_size]; omega) (Nat.le_refl _)))
       clear happ))
  case c1 => simp
  case c2 => exact own_built (Blk.new _ _ _) (Nat.le_refl _)
  case c3 => exact HD6.out.alloc _
  case c4 => exact one_bv _
  case c5 => simp only [maxLen, List.length_map, List.length_nil]; omega
  case c6 => simp only [List.length_map, List.length_nil]; omega
  case c7 => rw [alloc_size]; omega
  case d1 => simp
  case d3 => exact HX6.out.below HB7.out
  case d4 => exact one_bv _
  case d5 => simp only [maxLen, List.length_map]; omega
  case d6 => simp only [List.length_map]; omega
  case d7 => exact HB7.out.size
  have HB8 := Lib.hid (HB7.out.trans (HE8.out.below HE7.out.own HB7.out.size (Nat.le_refl _)))
  have HW8 := Lib.hid (HW6.out.trans (HB8.out.mono HW6.out.size))
  obtain ⟨A8, k8, hv8, hk8, hm8⟩ := own_slice HE8.out.own
  have hO8 := HE8.out.own
  rw [List.length_map] at hv8 hk8 hO8
  subst hv8
  simp only [maxLen] at hm8
  have HD8 := Lib.hid (Rd.of_own hO8)
  have HDT := Lib.hid (HD6.out.below HB8.out)
  have HDL := Lib.hid (HL6.out.below HB8.out)
  clear hO8 HE7 HE8
  refine (getT_any A8 k8 U s.size w8 HD8.out hk8 (by omega) (by omega) (by omega)).mono ?_
  rw [HGU.out, str_eta]
  rintro e w9 ⟨rfl, rfl⟩
  clear HD8 HD6 HL6 HB7 HB8 HX6
  go_wp2_with fail
  refine (getT_any A6 k6 T ((s.size : Int) - 1) w8 HDT.out hk6 (by omega) (by omega) (by omega)).mono ?_
  rw [HGB.out]
  rintro e w9 ⟨rfl, rfl⟩
  go_upto_if 56 with fail
  go_cut [3] (fun s wx => ∃ z : Nat, s = .int .i64 z ∧ (z : Int) ≤ 9223372036854775807 ∧ wx = w8)
  case first =>
    by_cases hneg : cut < 0
    · go_wp2_with fail
      go_meet
      exact ⟨(-(cut + 1)).toNat, by congr 1; omega, by omega, rfl⟩
    · go_wp2_with fail
      go_meet
      exact ⟨cut.toNat, by congr 1; omega, by omega, rfl⟩
  case rest =>
    obtain ⟨z, rfl, hz, rfl⟩ := hcut
    obtain ⟨i, hi⟩ : ∃ i, i = z % L.length := ⟨_, rfl⟩
    obtain ⟨j, hj⟩ : ∃ j, j = z % T.length := ⟨_, rfl⟩
    have hil : i < L.length := by rw [hi]; exact Nat.mod_lt _ hl1
    have hjl : j < T.length := by rw [hj]; exact Nat.mod_lt _ ht1
    have hremi : (z : Int) % (L.length : Int) = (i : Int) := by rw [hi]; simp
    have hremj : (z : Int) % (T.length : Int) = (j : Int) := by rw [hj]; simp
    have hik : (i : Int) ≤ (k2 : Int) := by omega
    have hjk : (j : Int) ≤ (k6 : Int) := by omega
    clear hi hj
    have hlz : ((L.length : Int) == 0) = false := by simp only [beq_eq_false_iff_ne, ne_eq]; omega
    have htz : ((T.length : Int) == 0) = false := by simp only [beq_eq_false_iff_ne, ne_eq]; omega
    go_wp2_with fail
    have hds := getN_any A2 k2 (L.take i) wc (by have := HDL.out.take_ i; rw [← List.map_take] at this; exact this) (by rw [take_len2 hil]; omega) (by have := hk2; omega)
    rw [take_len2 hil, HCN.out i hil] at hds
    refine hds.mono ?_
    rintro e w9 ⟨rfl, rfl⟩
    clear hds
    go_wp2_with fail
    have hds := getT_any A6 k6 (T.take j) s.size wc (by have := HDT.out.take_ j; rw [← List.map_take] at this; exact this) (by rw [take_len2 hjl]; omega) (by omega) (by omega) (by omega)
    rw [take_len2 hjl, HCT.out j hjl] at hds
    refine hds.mono ?_
    rintro e w9 ⟨rfl, rfl⟩
    clear hds
    go_wp2_with fail
    all_goals
      go_ret
      refine ⟨ret_b ?_, HW8.out⟩
      simp
end Go.Proofs.YtmgandacmhkndaaDoor
