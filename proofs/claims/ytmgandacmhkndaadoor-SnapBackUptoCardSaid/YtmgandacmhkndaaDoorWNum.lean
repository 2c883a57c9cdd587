/- wire.numbers and wire.bit: their walks. Conditions: numbers that are not below 0; so many bytes as there is room. -/
import Derived.Test.YtmgandacmhkndaaDoorNum
namespace Go.Proofs.YtmgandacmhkndaaDoor
open Go.RowKit
set_option maxRecDepth 100000
set_option maxHeartbeats 2000000 in
theorem numbers_any (base : Nat) (v : Value) (bs : List UInt8) (A : Option Addr) (c : Nat) (ns : List Nat) (w : World) (hown : OwnB w base v bs) (hbase : base ≤ w.heap.size)
    (hr : Rd w A (ivs (ns.map Int.ofNat))) (hA : ∀ ad, A = some ad → v.ownBlock ≠ some ad.block) (hn : ∀ n ∈ ns, n ≤ 9223372036854775807) (hl : bs.length + 10 * ns.length ≤ 900000000000) :
    Calls Tryd.prog 41 #[v, .slice A ns.length c] w fun e w' => ∃ v', e = .returned v' ∧ AppB base w v w' v' (bs ++ vrs ns) := by
  go_enter Tryd.func41, Tryd.ntmps41
  go_wp2
  go_loopg [0, 9] ns.length (fun d b i wr => ∃ k : Nat, d + k = ns.length ∧ i = .int .i64 k ∧ Hid (AppB base w v wr b (bs ++ vrs (ns.take k))))
  case atStart => exact ⟨0, rfl, rfl, by show AppB _ _ _ _ _ _; simpa [vrs] using App.refl hown⟩
  case round =>
    obtain ⟨k, hd, rfl, HA⟩ := hrel
    have hk : k ≤ ns.length := by omega
    have HD := Lib.hid hd
    clear hd
    by_cases hlt : k < ns.length
    · have hrw := HA.out.rd hA hr
      obtain ⟨ad, rfl, hc⟩ := hrw.int (k := k) (by simpa using hlt)
      have h1 := hc k (by simpa using hlt)
      have hx := hn ns[k] (List.getElem_mem hlt)
      have HV := Lib.hid (vrs_take ns k hlt)
      rw [List.getElem_map] at h1
      have h1' : wr.cell? (ad.add k) = some (.int .i64 ((ns[k] : Nat) : Int)) := h1
      have hvl : (vrs (ns.take k)).length ≤ 10 * ns.length := Nat.le_trans (vrs_len _ fun n hm => hn n (List.mem_of_mem_take hm)) (by rw [List.length_take]; omega)
      have hsz := HA.out.grown.size
      generalize ns[k] = x at h1' hx HV
      clear hrw hc h1
      go_wp2_with (go_at_call 61; refine (var_any base _ (bs ++ vrs (ns.take k)) x _ hx HA.out.own (by omega) (by rw [List.length_append]; omega)).mono ?_; rintro e w1 ⟨b1, rfl, hA1⟩; have HA1 := Lib.hid hA1; clear hA1)
      go_roundg (ns.length - (k + 1))
      case measure => have := HD.out; omega
      case rel => exact ⟨k + 1, by omega, by go_num, by show AppB _ _ _ _ _ _; rw [HV.out, ← List.append_assoc]; exact HA.out.trans HA1.out⟩
    · go_wp2
      go_ret
      refine ⟨_, rfl, ?_⟩
      have := HA.out
      rwa [List.take_of_length_le (by omega)] at this

theorem bit_any (b : Bool) (w : World) :
    Calls Tryd.prog 42 #[.bool b] w fun e w' => e = .returned (.int .i64 (((if b then 1 else 0 : Nat) : Nat) : Int)) ∧ w = w' := by
  cases b
  all_goals
    go_enter Tryd.func42, Tryd.ntmps42
    go_wp2
    go_ret
    exact ⟨rfl, rfl⟩
end Go.Proofs.YtmgandacmhkndaaDoor
