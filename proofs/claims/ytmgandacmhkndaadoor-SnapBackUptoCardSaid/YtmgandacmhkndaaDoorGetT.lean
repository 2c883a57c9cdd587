/- snap.GetText: its walk. Conditions: the bytes read as such. -/
import Derived.Test.YtmgandacmhkndaaDoorGet
import Derived.Test.YtmgandacmhkndaaDoorStr
namespace Go.Proofs.YtmgandacmhkndaaDoor
open Go.RowKit
set_option maxRecDepth 100000
set_option linter.unusedSimpArgs false

/-- The text with which bytes begin, and how many bytes it has with its number. -/
def getT (l : List UInt8) (most : Int) : List UInt8 × Nat :=
  if (getN l).2 = 0 ∨ most < 0 ∨ most < ((getN l).1 : Int) ∨ l.length - (getN l).2 < (getN l).1 then ([], 0) else ((l.drop (getN l).2).take (getN l).1, (getN l).2 + (getN l).1)
theorem ret_sk {a : ByteArray} {b : Int} {p : List UInt8 × Nat} (h : a = ⟨p.1.toArray⟩) (h' : b = (p.2 : Int)) : Ending.returned (.tuple #[.string a, .int .i64 b]) = .returned (.tuple #[.string ⟨p.1.toArray⟩, .int .i64 (p.2 : Int)]) := by rw [h, h']

set_option maxHeartbeats 4000000 in
theorem getT_bad (A : Option Addr) (c : Nat) (l : List UInt8) (most : Int) (w : World) (hr : Rd w A (bvs l)) (hc : l.length ≤ c) (hl : c ≤ 9223372036854775807) (hm : most ≤ 9223372036854775807)
    (hm0 : -9223372036854775808 ≤ most) (hb : Hid ((getN l).2 = 0 ∨ most < 0 ∨ most < ((getN l).1 : Int) ∨ l.length - (getN l).2 < (getN l).1)) :
    Calls Tryd.prog 24 #[.slice A l.length c, .int .i64 most] w fun e w' => e = .returned (.tuple #[.string ⟨(getT l most).1.toArray⟩, .int .i64 ((getT l most).2 : Int)]) ∧ w = w' := by
  have hg := getN_le l
  have HT : Hid (getT l most = ([], 0)) := by show _ = _; unfold getT; rw [if_pos hb.out]
  have HG := Lib.hid (getN_any A c l w hr hc hl)
  obtain ⟨n, hn⟩ : ∃ n, n = (getN l).1 := ⟨_, rfl⟩
  obtain ⟨k, hk⟩ : ∃ k, k = (getN l).2 := ⟨_, rfl⟩
  rw [← hn, ← hk] at HG hb hg
  clear hn hk hr
  go_enter Tryd.func24, Tryd.ntmps24
  go_wp2_with (go_at_call 22; refine HG.out.mono ?_; rintro e w' ⟨rfl, rfl⟩)
  all_goals first
    | go_ret2
      refine ⟨ret_sk ?_ ?_, rfl⟩
      all_goals
        rw [HT.out] <;> rfl
    | (exfalso
       have := hb.out
       go_light
       try simp only [beq_iff_eq, beq_eq_false_iff_ne, ne_eq] at *
       omega)

set_option maxHeartbeats 4000000 in
theorem getT_good (A : Option Addr) (c : Nat) (l : List UInt8) (most : Int) (w : World) (hr : Rd w A (bvs l)) (hc : l.length ≤ c) (hl : c ≤ 9223372036854775807) (hm : most ≤ 9223372036854775807)
    (hm0 : -9223372036854775808 ≤ most) (hb : ¬ ((getN l).2 = 0 ∨ most < 0 ∨ most < ((getN l).1 : Int) ∨ l.length - (getN l).2 < (getN l).1)) :
    Calls Tryd.prog 24 #[.slice A l.length c, .int .i64 most] w fun e w' => e = .returned (.tuple #[.string ⟨(getT l most).1.toArray⟩, .int .i64 ((getT l most).2 : Int)]) ∧ w = w' := by
  have hg := getN_le l
  have HT := Lib.hid (show getT l most = ((l.drop (getN l).2).take (getN l).1, (getN l).2 + (getN l).1) by unfold getT; rw [if_neg hb])
  have HG := Lib.hid (getN_any A c l w hr hc hl)
  obtain ⟨n, hn⟩ : ∃ n, n = (getN l).1 := ⟨_, rfl⟩
  obtain ⟨k, hk⟩ : ∃ k, k = (getN l).2 := ⟨_, rfl⟩
  rw [← hn, ← hk] at HG hb hg HT
  clear hn hk
  have hk0 : ((k : Int) == 0) = false := by simp; omega
  have hn1 : (n : Int) ≤ most := by omega
  have hn2 : n ≤ l.length - k := by omega
  have hk1 : k ≤ l.length := by omega
  have hmm : 0 ≤ most := by omega
  clear hb
  have hkk : k ≠ 0 := by simpa using hk0
  obtain ⟨ad, rfl, _⟩ := hr.at_ (k := 0) (by rw [List.length_map]; omega)
  have hrc := hr.cut (k := k) (cap := c) (by simpa using hc)
  have hcv : ∀ c', (convert 24 9 (.slice (if c = k then some ad else some (ad.add k)) n c')).run Tryd.prog w = .ok (.string ⟨((l.drop k).take n).toArray⟩) w := by
    intro c'
    refine run_str_rd (P := Tryd.prog) w 24 9 5 Tryd.underlying24 Tryd.underlying5 Tryd.underlying9 _ n c' _ (by rw [List.length_take, List.length_drop]; omega) ?_
    have := hrc.take_ n
    rw [← List.map_drop, ← List.map_take] at this
    exact this
  clear hrc hr
  by_cases hck : c = k
  · rw [if_pos hck] at hcv
    subst hck
    go_enter Tryd.func24, Tryd.ntmps24
    go_wp2_with (go_at_call 22; refine HG.out.mono ?_; rintro e w' ⟨rfl, rfl⟩)
    go_ret2
    refine ⟨ret_sk ?_ ?_, rfl⟩
    all_goals
      rw [HT.out] <;> first | rfl | simp
  · rw [if_neg hck] at hcv
    go_enter Tryd.func24, Tryd.ntmps24
    go_wp2_with (go_at_call 22; refine HG.out.mono ?_; rintro e w' ⟨rfl, rfl⟩)
    go_ret2
    refine ⟨ret_sk ?_ ?_, rfl⟩
    all_goals
      rw [HT.out] <;> first | rfl | simp
theorem getT_any (A : Option Addr) (c : Nat) (l : List UInt8) (most : Int) (w : World) (hr : Rd w A (bvs l)) (hc : l.length ≤ c) (hl : c ≤ 9223372036854775807) (hm : most ≤ 9223372036854775807)
    (hm0 : -9223372036854775808 ≤ most) :
    Calls Tryd.prog 24 #[.slice A l.length c, .int .i64 most] w fun e w' => e = .returned (.tuple #[.string ⟨(getT l most).1.toArray⟩, .int .i64 ((getT l most).2 : Int)]) ∧ w = w' := by
  by_cases hb : (getN l).2 = 0 ∨ most < 0 ∨ most < ((getN l).1 : Int) ∨ l.length - (getN l).2 < (getN l).1
  · exact getT_bad A c l most w hr hc hl hm hm0 hb
  · exact getT_good A c l most w hr hc hl hm hm0 hb
end Go.Proofs.YtmgandacmhkndaaDoor
