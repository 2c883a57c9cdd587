/- snap.PutNumber, snap.PutText, ref13.PutNumber, ref13.PutText: their walks. Conditions: the bytes read as such; so many bytes as there is room. -/
import Derived.Test.YtmgandacmhkndaaDoorNum
import Derived.Lib.AppendStr
namespace Go.Proofs.YtmgandacmhkndaaDoor
open Go.RowKit
set_option maxRecDepth 100000
set_option linter.unusedSimpArgs false

theorem bvs_app (a b : List UInt8) : bvs (a ++ b) = bvs a ++ bvs b := List.map_append ..
theorem own_built {W : World} {g : Nat} (h : Blk W g 5 #[]) {base : Nat} (hb : base ≤ g) : OwnB W base (.slice (some ⟨g, 0, none⟩) 0 0) [] :=
  ⟨by simp, .inr ⟨g, 0, #[], rfl, hb, h, Nat.le_refl _, Nat.zero_le _, by simp, by simp⟩⟩
theorem byte_add (n : Nat) (_h : 128 ≤ n) : (n : Int) % 128 + 128 = ((UInt8.ofNat (n % 128 + 128)).toNat : Int) := by
  rw [toNat_of (by omega)]; omega
def PutPost (w : World) (bs : List UInt8) (e : Ending) (w' : World) : Prop := ∃ v, e = .returned v ∧ OwnB w' w.heap.size v bs ∧ Below w.heap.size w w'

set_option maxHeartbeats 2000000 in
theorem putN_any (A : Option Addr) (c : Nat) (l : List UInt8) (n : Nat) (w : World) (hr : Rd w A (bvs l)) (hl : l.length ≤ 1000000000000) (hn : n ≤ 18446744073709551615) :
    Calls Tryd.prog 26 #[.slice A l.length c, .int .u64 n] w (PutPost w (l ++ vr n)) := by
  have hv10 : (vr n).length ≤ 10 := vr_len64 (by omega)
  have HR := Lib.hid hr
  clear hr
  go_enter Tryd.func26, Tryd.ntmps26
  go_wp2_with (first
    | (at_builtin
       refine wpList_append_rd _ rfl (.const (.slice none 0 0)) (.tmp 5) 24 rfl w.heap.size 5 _ 1 Tryd.underlying24 info_u8 rfl _ (bvs []) A l.length c (bvs l) rfl rfl ?a1 ?a2 ?a3 ?a4 ?a5 ?a6 ?a7 ?_
       rotate_left 7
       intro v1 w1 happ
       have HA1 := Lib.hid (show AppB w.heap.size _ _ w1 v1 l from happ)
       clear happ))
  case a1 => simp
  case a2 => exact own_nil _ _ _ _
  case a3 => exact HR.out
  case a4 => exact one_bv _
  case a5 => simp only [maxLen, List.length_map, List.length_nil]; omega
  case a6 => simp only [List.length_map, List.length_nil]; omega
  case a7 => exact Nat.le_refl _
  go_loopg [0, 1] n (fun d b i wr => ∃ (cs : List UInt8) (m : Nat), d = m ∧ m ≤ n ∧ i = .int .u64 m ∧ Hid (l ++ vr n = cs ++ vr m) ∧ Hid (AppB w.heap.size w (.slice none 0 0) wr b cs))
  case atStart => exact ⟨l, n, rfl, Nat.le_refl _, rfl, rfl, HA1⟩
  case round =>
    obtain ⟨cs, m, hd, hm, rfl, HC, HA⟩ := hrel
    have HD := Lib.hid hd
    clear hd
    have hcl : cs.length ≤ l.length + 10 := by
      have := congrArg List.length HC.out
      simp only [List.length_append] at this
      omega
    have hsz := HA.out.grown.size
    by_cases hb : 128 ≤ m
    · go_wp2_with (first
        | (at_builtin
           refine wpList_append_rd _ rfl (.tmp 11) (.tmp 15) 24 rfl w.heap.size 5 _ 1 Tryd.underlying24 info_u8 rfl _ (bvs cs) (some ⟨wr.heap.size, 0, none⟩) 1 1 [_] rfl rfl rfl (own_below HA.out.own ((Below.refl _ _).alloc (Nat.le_refl _) _)) (rd_blk (Blk.new _ _ _)) ?h1 ?h2 ?h3 ?h4 ?_
           rotate_left 4
           intro b1 w1 happ
           have HA1 := Lib.hid (App.byte HA.out happ (byte_or m hb))
           clear happ))
      case h1 => simp [Value.oneCell']
      case h2 => simp only [maxLen, List.length_map, List.length_cons, List.length_nil]; omega
      case h3 => simp only [List.length_map, List.length_cons, List.length_nil]; omega
      case h4 => rw [alloc_size]; omega
      have HC1 : Hid (l ++ vr n = (cs ++ [UInt8.ofNat (m % 128 + 128)]) ++ vr (m / 128)) := by
        show _ = _
        rw [HC.out, vr_big (by omega)]; simp
      go_roundg (m / 128)
      case measure => have := HD.out; omega
      case rel => exact ⟨_, m / 128, rfl, by omega, by go_num, HC1, HA1⟩
    · go_wp2_with (first
        | (at_builtin
           refine wpList_append_rd _ rfl (.tmp 17) (.tmp 20) 24 rfl w.heap.size 5 _ 1 Tryd.underlying24 info_u8 rfl _ (bvs cs) (some ⟨wr.heap.size, 0, none⟩) 1 1 [_] rfl rfl rfl (own_below HA.out.own ((Below.refl _ _).alloc (Nat.le_refl _) _)) (rd_blk (Blk.new _ _ _)) ?h1 ?h2 ?h3 ?h4 ?_
           rotate_left 4
           intro b1 w1 happ
           have HA1 := Lib.hid (App.byte HA.out happ (byte_of m (by omega)))
           clear happ))
      case h1 => simp [Value.oneCell']
      case h2 => simp only [maxLen, List.length_map, List.length_cons, List.length_nil]; omega
      case h3 => simp only [List.length_map, List.length_cons, List.length_nil]; omega
      case h4 => rw [alloc_size]; omega
      go_ret
      rw [HC.out, vr_small (by omega)]
      exact ⟨_, rfl, HA1.out.own, HA1.out.below (own_nil _ _ _ _) (Nat.le_refl _) (Nat.le_refl _)⟩
set_option maxHeartbeats 2000000 in
theorem putRN_any (A : Option Addr) (c : Nat) (l : List UInt8) (n : Nat) (w : World) (hr : Rd w A (bvs l)) (hl : l.length ≤ 1000000000000) (hn : n ≤ 18446744073709551615) :
    Calls Tryd.prog 28 #[.slice A l.length c, .int .u64 n] w (PutPost w (l ++ vr n)) := by
  have hv10 : (vr n).length ≤ 10 := vr_len64 (by omega)
  have HR := Lib.hid hr
  clear hr
  go_enter Tryd.func28, Tryd.ntmps28
  go_wp2_with (first
    | (at_builtin
       refine wpList_append_rd _ rfl (.tmp 6) (.tmp 7) 24 rfl w.heap.size 5 _ 1 Tryd.underlying24 info_u8 rfl (.slice (some ⟨w.heap.size, 0, none⟩) 0 0) (bvs []) A l.length c (bvs l) rfl rfl ?a1 ?a2 ?a3 ?a4 ?a5 ?a6 ?a7 ?_
       rotate_left 7
       intro v1 w1 happ
       have HA1 := Lib.hid (show AppB w.heap.size (w.alloc (.cells #[] 5)) (.slice (some ⟨w.heap.size, 0, none⟩) 0 0) w1 v1 l from happ)
       clear happ))
  case a1 => simp
  case a2 => exact own_built (Blk.new _ _ _) (Nat.le_refl _)
  case a3 => exact HR.out.alloc _
  case a4 => exact one_bv _
  case a5 => simp only [maxLen, List.length_map, List.length_nil]; omega
  case a6 => simp only [List.length_map, List.length_nil]; omega
  case a7 => rw [alloc_size]; omega
  go_loopg [1, 5] n (fun d i b wr => ∃ (cs : List UInt8) (m : Nat), d = m ∧ m ≤ n ∧ i = .int .u64 m ∧ Hid (l ++ vr n = cs ++ vr m) ∧ Hid (AppB w.heap.size (w.alloc (.cells #[] 5)) (.slice (some ⟨w.heap.size, 0, none⟩) 0 0) wr b cs))
  case atStart => exact ⟨l, n, rfl, Nat.le_refl _, rfl, rfl, HA1⟩
  case round =>
    obtain ⟨cs, m, hd, hm, rfl, HC, HA⟩ := hrel
    have HD := Lib.hid hd
    clear hd
    have hcl : cs.length ≤ l.length + 10 := by
      have := congrArg List.length HC.out
      simp only [List.length_append] at this
      omega
    have hsz := HA.out.grown.size
    rw [alloc_size] at hsz
    by_cases hb : 128 ≤ m
    · go_wp2_with (first
        | (at_builtin
           refine wpList_append_rd _ rfl (.tmp 11) (.tmp 16) 24 rfl w.heap.size 5 _ 1 Tryd.underlying24 info_u8 rfl _ (bvs cs) (some ⟨wr.heap.size, 0, none⟩) 1 1 [_] rfl rfl rfl (own_below HA.out.own ((Below.refl _ _).alloc (Nat.le_refl _) _)) (rd_blk (Blk.new _ _ _)) ?h1 ?h2 ?h3 ?h4 ?_
           rotate_left 4
           intro b1 w1 happ
           have HA1 := Lib.hid (App.byte HA.out happ (byte_add m hb))
           clear happ))
      case h1 => simp [Value.oneCell']
      case h2 => simp only [maxLen, List.length_map, List.length_cons, List.length_nil]; omega
      case h3 => simp only [List.length_map, List.length_cons, List.length_nil]; omega
      case h4 => rw [alloc_size]; omega
      have HC1 : Hid (l ++ vr n = (cs ++ [UInt8.ofNat (m % 128 + 128)]) ++ vr (m / 128)) := by
        show _ = _
        rw [HC.out, vr_big (by omega)]; simp
      go_roundg (m / 128)
      case measure => have := HD.out; omega
      case rel => exact ⟨_, m / 128, rfl, by omega, by go_num, HC1, HA1⟩
    · go_wp2_with (first
        | (at_builtin
           refine wpList_append_rd _ rfl (.tmp 20) (.tmp 23) 24 rfl w.heap.size 5 _ 1 Tryd.underlying24 info_u8 rfl _ (bvs cs) (some ⟨wr.heap.size, 0, none⟩) 1 1 [_] rfl rfl rfl (own_below HA.out.own ((Below.refl _ _).alloc (Nat.le_refl _) _)) (rd_blk (Blk.new _ _ _)) ?h1 ?h2 ?h3 ?h4 ?_
           rotate_left 4
           intro b1 w1 happ
           have HA1 := Lib.hid (App.byte HA.out happ (byte_of m (by omega)))
           clear happ))
      case h1 => simp [Value.oneCell']
      case h2 => simp only [maxLen, List.length_map, List.length_cons, List.length_nil]; omega
      case h3 => simp only [List.length_map, List.length_cons, List.length_nil]; omega
      case h4 => rw [alloc_size]; omega
      go_ret
      rw [HC.out, vr_small (by omega)]
      exact ⟨_, rfl, HA1.out.own, ((Below.refl w.heap.size w).alloc (Nat.le_refl _) _).trans (HA1.out.below (own_built (Blk.new _ _ _) (Nat.le_refl _)) (by rw [alloc_size]; omega) (Nat.le_refl _))⟩

set_option maxHeartbeats 2000000 in
theorem putT_any (A : Option Addr) (c : Nat) (l : List UInt8) (s : ByteArray) (w : World) (hr : Rd w A (bvs l)) (hl : l.length ≤ 900000000000) (hs : s.size ≤ 900000000000) :
    Calls Tryd.prog 27 #[.slice A l.length c, .string s] w (PutPost w (l ++ vr s.size ++ s.data.toList)) := by
  have hv10 : (vr s.size).length ≤ 10 := vr_len64 (by omega)
  have hw : IntKind.u64.wrap (s.size : Int) = (s.size : Int) := by rw [IntKind.wrap_u64]; omega
  have HP := Lib.hid (putN_any A c l s.size w hr (by omega) (by omega))
  clear hr
  go_enter Tryd.func27, Tryd.ntmps27
  go_wp2_with fail
  refine HP.out.mono ?_
  rintro e w1 ⟨v1, rfl, hO, hB⟩
  have HO := Lib.hid hO
  have HB := Lib.hid hB
  clear hO hB
  obtain ⟨i, hi, hzz⟩ := Option.map_eq_some_iff.1 info_u8
  simp only [Prod.mk.injEq] at hzz
  have HZ := Lib.hid hzz
  have HI := Lib.hid hi
  clear hi hzz
  have hsz := HB.out.size
  go_wp2_with (first
    | (at_builtin
       refine Lib.wpList_append_own_string _ rfl (.tmp 9) (.tmp 10) 24 9 rfl w.heap.size 5 i Tryd.underlying24 Tryd.underlying9 HI.out HZ.out.1 HZ.out.2.1 HZ.out.2.2 v1 (bvs (l ++ vr s.size)).length (bvs (l ++ vr s.size)) rfl HO.out s rfl ?a1 ?a2 ?a3 ?_
       rotate_left 3
       intro v2 w2 hO2 hG2 _
       have HO2 := Lib.hid hO2
       have HG2 := Lib.hid hG2
       clear hO2 hG2))
  case a1 => simp only [maxLen, List.length_map, List.length_append]; omega
  case a2 => simp only [List.length_map, List.length_append]; omega
  case a3 => exact hsz
  go_ret
  refine ⟨_, rfl, ?_, HB.out.trans (grown_below HG2.out hsz fun k hk => own_base HO.out k hk)⟩
  have h := HO2.out
  have e1 : bvs (l ++ vr s.size) ++ Lib.strCells s = bvs (l ++ vr s.size ++ s.data.toList) := by rw [bvs_app (l ++ vr s.size) s.data.toList]; rfl
  have e2 : (bvs (l ++ vr s.size)).length + s.size = (bvs (l ++ vr s.size ++ s.data.toList)).length := by
    simp only [List.length_map, List.length_append]; rfl
  rw [e1, e2] at h
  exact h

set_option maxHeartbeats 2000000 in
theorem putRT_any (A : Option Addr) (c : Nat) (l : List UInt8) (s : ByteArray) (w : World) (hr : Rd w A (bvs l)) (hl : l.length ≤ 900000000000) (hs : s.size ≤ 900000000000) :
    Calls Tryd.prog 29 #[.slice A l.length c, .string s] w (PutPost w (l ++ vr s.size ++ s.data.toList)) := by
  have hv10 : (vr s.size).length ≤ 10 := vr_len64 (by omega)
  have hw : IntKind.u64.wrap (s.size : Int) = (s.size : Int) := by rw [IntKind.wrap_u64]; omega
  have HP := Lib.hid (putRN_any A c l s.size w hr (by omega) (by omega))
  clear hr
  go_enter Tryd.func29, Tryd.ntmps29
  go_wp2_with fail
  refine HP.out.mono ?_
  rintro e w1 ⟨v1, rfl, hO, hB⟩
  have HO := Lib.hid hO
  have HB := Lib.hid hB
  clear hO hB
  obtain ⟨i, hi, hzz⟩ := Option.map_eq_some_iff.1 info_u8
  simp only [Prod.mk.injEq] at hzz
  have HZ := Lib.hid hzz
  have HI := Lib.hid hi
  clear hi hzz
  have hsz := HB.out.size
  go_wp2_with (first
    | (at_builtin
       refine Lib.wpList_append_own_string _ rfl (.tmp 9) (.tmp 10) 24 9 rfl w.heap.size 5 i Tryd.underlying24 Tryd.underlying9 HI.out HZ.out.1 HZ.out.2.1 HZ.out.2.2 v1 (bvs (l ++ vr s.size)).length (bvs (l ++ vr s.size)) rfl HO.out s rfl ?a1 ?a2 ?a3 ?_
       rotate_left 3
       intro v2 w2 hO2 hG2 _
       have HO2 := Lib.hid hO2
       have HG2 := Lib.hid hG2
       clear hO2 hG2))
  case a1 => simp only [maxLen, List.length_map, List.length_append]; omega
  case a2 => simp only [List.length_map, List.length_append]; omega
  case a3 => exact hsz
  go_ret
  refine ⟨_, rfl, ?_, HB.out.trans (grown_below HG2.out hsz fun k hk => own_base HO.out k hk)⟩
  have h := HO2.out
  have e1 : bvs (l ++ vr s.size) ++ Lib.strCells s = bvs (l ++ vr s.size ++ s.data.toList) := by rw [bvs_app (l ++ vr s.size) s.data.toList]; rfl
  have e2 : (bvs (l ++ vr s.size)).length + s.size = (bvs (l ++ vr s.size ++ s.data.toList)).length := by
    simp only [List.length_map, List.length_append]; rfl
  rw [e1, e2] at h
  exact h
end Go.Proofs.YtmgandacmhkndaaDoor
