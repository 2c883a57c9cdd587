/- snap.GetNumber: its walk. Conditions: the bytes read as such. -/
import Derived.Test.YtmgandacmhkndaaDoorNum
import Derived.Deep.DeepCutAuto
import Derived.Deep.CutBlock
import Derived.Deep.Light
namespace Go.Proofs.YtmgandacmhkndaaDoor
open Go.RowKit
set_option maxRecDepth 100000
set_option linter.unusedSimpArgs false

theorem and127_all : ∀ r : Fin 256, Go.bits .and .u8 ((r.val : Nat) : Int) 127 = ((r.val % 128 : Nat) : Int) := by decide +kernel
theorem and127 (x : UInt8) : Go.bits .and .u8 (x.toNat : Int) 127 = ((x.toNat % 128 : Nat) : Int) := and127_all ⟨x.toNat, UInt8.toNat_lt x⟩
theorem wrap_u64_nat (n : Nat) (h : n < 18446744073709551616) : IntKind.u64.wrap (n : Int) = (n : Int) := by
  rw [IntKind.wrap_u64]; omega
theorem pow128 (k : Nat) : 128 ^ k = 2 ^ (7 * k) := by rw [Nat.pow_mul]
theorem get_sum {k acc : Nat} (x : UInt8) (hk : k ≤ 9) (h9 : k = 9 → x.toNat ≤ 1) (ha : acc < 128 ^ k) :
    Go.bits .or .u64 (acc : Int) (IntKind.u64.wrap (IntKind.u64.wrap (Go.bits .and .u8 (x.toNat : Int) 127) * 2 ^ (7 * k))) = ((acc + x.toNat % 128 * 128 ^ k : Nat) : Int) := by
  have hx : x.toNat % 128 < 128 := Nat.mod_lt _ (by omega)
  have hp : 128 ^ k ≤ 128 ^ 9 := Nat.pow_le_pow_right (by omega) hk
  have hb : x.toNat % 128 * 128 ^ k < 18446744073709551616 := top_byte hk hx (fun e => by have := h9 e; omega)
  rw [and127, wrap_u64_nat _ (by omega)]
  have he : ((x.toNat % 128 : Nat) : Int) * 2 ^ (7 * k) = ((x.toNat % 128 * 128 ^ k : Nat) : Int) := by
    rw [pow128]; simp
  rw [he, wrap_u64_nat _ hb, u64_or_nat _ _ (by have : (128 : Nat) ^ 9 < 18446744073709551616 := by decide
                                                omega) hb]
  have := Nat.two_pow_add_eq_or_of_lt (i := 7 * k) (b := acc) (by rw [← pow128]; exact ha) (x.toNat % 128)
  rw [pow128, Nat.or_comm, Nat.mul_comm, ← this, Nat.add_comm]
theorem acc_next {k acc : Nat} (x : UInt8) (ha : acc < 128 ^ k) : acc + x.toNat % 128 * 128 ^ k < 128 ^ (k + 1) := by
  have hx : x.toNat % 128 + 1 ≤ 128 := Nat.mod_lt _ (by omega)
  have := Nat.mul_le_mul_right (128 ^ k) hx
  rw [Nat.add_mul] at this
  rw [Nat.pow_succ, Nat.mul_comm (128 ^ k)]
  omega
theorem get_step {l : List UInt8} {k acc : Nat} {x : UInt8} (HE : Hid (getN l = getFrom k acc (l.drop k))) (hk : k < l.length) (HX : Hid (l[k] = x)) :
    getN l = (if k = 10 then (0, 0) else if (k = 9 ∧ 1 < x.toNat) ∨ (0 < k ∧ x.toNat = 0) then (0, 0) else if x.toNat < 128 then (acc + x.toNat % 128 * 128 ^ k, k + 1) else getFrom (k + 1) (acc + x.toNat % 128 * 128 ^ k) (l.drop (k + 1))) := by
  rw [HE.out, List.drop_eq_getElem_cons hk, HX.out]; rfl
theorem get_end {l : List UInt8} {k acc : Nat} (HE : Hid (getN l = getFrom k acc (l.drop k))) (hk : k = 10 ∨ l.length ≤ k) : getN l = (0, 0) := by
  rw [HE.out]
  rcases Nat.lt_or_ge k l.length with h | h
  · obtain rfl : k = 10 := by omega
    rw [List.drop_eq_getElem_cons h]; simp [getFrom]
  · rw [List.drop_of_length_le h]; rfl
theorem ret_uk {a b : Int} {p : Nat × Nat} (h : a = (p.1 : Int)) (h' : b = (p.2 : Int)) : Ending.returned (.tuple #[.int .u64 a, .int .i64 b]) = .returned (.tuple #[.int .u64 (p.1 : Int), .int .i64 (p.2 : Int)]) := by rw [h, h']

set_option maxHeartbeats 4000000 in
theorem getN_any (A : Option Addr) (c : Nat) (l : List UInt8) (w : World) (hr : Rd w A (bvs l)) (hc : l.length ≤ c) (hl : c ≤ 9223372036854775807) :
    Calls Tryd.prog 22 #[.slice A l.length c] w fun e w' => e = .returned (.tuple #[.int .u64 ((getN l).1 : Int), .int .i64 ((getN l).2 : Int)]) ∧ w = w' := by
  obtain ⟨T, hT⟩ : ∃ T, T = min l.length 10 := ⟨_, rfl⟩
  have ht1 : T ≤ 10 := by omega
  have ht2 : T ≤ l.length := by omega
  have HT := Lib.hid hT
  clear hT
  go_enter Tryd.func22, Tryd.ntmps22
  go_upto_region 2 with fail
  go_cut [11, 12, 13] (fun s11 s12 s13 wx => s11 = .slice A T c ∧ s12 = .int .i64 T ∧ s13 = .int .i64 0 ∧ w = wx)
  case first =>
    have hmx : max (10 : Int) 0 = 10 := rfl
    have hmy : max (l.length : Int) 0 = l.length := by omega
    by_cases h10 : l.length ≤ 10
    · obtain rfl : T = l.length := by have := HT.out; omega
      go_wp2_with fail
      go_meet
      exact ⟨rfl, rfl, rfl, rfl⟩
    · obtain rfl : T = 10 := by have := HT.out; omega
      go_wp2_with fail
      go_meet
      exact ⟨rfl, rfl, rfl, rfl⟩
  case rest =>
    obtain ⟨rfl, rfl, rfl, rfl⟩ := hcut
    go_wp2_with fail
    go_loopg [4, 13] T (fun d s4 i wr => ∃ (k acc : Nat), d + k = T ∧ w = wr ∧ i = .int .i64 k ∧ s4 = .int .u64 acc ∧ Hid (acc < 128 ^ k) ∧ Hid (getN l = getFrom k acc (l.drop k)))
    case atStart => exact ⟨0, 0, rfl, rfl, rfl, rfl, by show _ < _; simp, rfl⟩
    case round =>
      obtain ⟨k, acc, hd, rfl, rfl, rfl, HA, HE⟩ := hrel
      have hk : k ≤ T := by omega
      have HD := Lib.hid hd
      clear hd
      by_cases hlt : k < T
      · obtain ⟨ad, rfl, hcl⟩ := hr.byte (k := k) (by omega)
        have h1 := hcl k (by omega)
        clear hcl hr
        have hx := UInt8.toNat_lt l[k]
        generalize hxx : l[k] = x at h1 hx
        have HX := Lib.hid hxx
        have HS := Lib.hid (get_step HE (by omega) hxx)
        clear hxx
        go_upto_region 6 with fail
        obtain ⟨V, hV⟩ : ∃ V, Go.bits .or .u64 (acc : Int) (IntKind.u64.wrap (IntKind.u64.wrap (Go.bits .and .u8 (x.toNat : Int) 127) * 2 ^ (7 * k))) = V := ⟨_, rfl⟩
        rw [hV]
        have HV := Lib.hid hV
        clear hV
        have HW : k = 9 → x.toNat ≤ 1 → V = _ := fun a b => HV.out.symm.trans (get_sum x (by omega) (fun _ => b) HA.out)
        have HW2 : k ≤ 8 → V = _ := fun a => HV.out.symm.trans (get_sum x (by omega) (fun e => by omega) HA.out)
        have HWa := Lib.hid HW
        have HWb := Lib.hid HW2
        clear HW HW2
        go_wp2_with fail
        all_goals first
          | go_ret2
            refine ⟨ret_uk ?_ ?_, rfl⟩
            all_goals
              go_light
              have hs := HS.out
              have ha := HWa.out
              have hb := HWb.out
              clear HS HWa HWb HA HE HD HV HX h1
              try simp only [beq_iff_eq, beq_eq_false_iff_ne, ne_eq] at *
              first
                | (rw [if_neg (by omega), if_pos (by omega)] at hs; rw [hs]; rfl)
                | (rw [if_neg (by omega), if_neg (by omega), if_pos (by omega)] at hs; rw [hs]; first | exact hb (by omega) | exact ha (by omega) (by omega) | (simp; done) | (simp; omega))
          | go_roundg (T - (k + 1))
            case measure => have := HD.out; omega
            case rel =>
              go_light
              have hs := HS.out
              rw [if_neg (by omega), if_neg (by (try simp only [beq_iff_eq, beq_eq_false_iff_ne, ne_eq] at *); omega), if_neg (by omega)] at hs
              exact ⟨k + 1, _, by omega, rfl, by go_num, by rw [HWb.out (by omega)], acc_next x HA.out, hs⟩
      · clear hr
        go_wp2_with fail
        go_ret2
        have hh := get_end HE (by have := HT.out; omega)
        exact ⟨ret_uk (by rw [hh]; rfl) (by rw [hh]; rfl), rfl⟩
end Go.Proofs.YtmgandacmhkndaaDoor
