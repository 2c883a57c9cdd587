/- ref16.SameNodes: its walk. Conditions: the lists read as such. -/
import Derived.Test.YtmgandacmhkndaaDoorWRight
import Derived.Test.YtmgandacmhkndaaDoorProg
import Derived.Test.YtmgandacmhkndaaDoorStr
import Derived.WalkKit
import Derived.WalkLawsBesides
import Derived.WalkSpells
import Derived.Deep.Light
import Derived.Deep.QuietTactic
import Derived.BigQuiet
import Derived.Deep.RegionHeld3
namespace Go.Proofs.YtmgandacmhkndaaDoor
open Go.RowKit
set_option maxRecDepth 100000
set_option linter.unusedSimpArgs false

theorem take_same {α : Type} {l l' : List α} {k : Nat} (hk : k < l.length) (hk' : k < l'.length) (h : l.take k = l'.take k) (he : l[k] = l'[k]) : l.take (k + 1) = l'.take (k + 1) := by
  rw [List.take_succ_eq_append_getElem hk, List.take_succ_eq_append_getElem hk', h, he]
theorem ne_at {α : Type} {l l' : List α} {k : Nat} (hk : k < l.length) (hk' : k < l'.length) (he : l[k] ≠ l'[k]) : l ≠ l' := by
  rintro rfl; exact he rfl

set_option maxHeartbeats 2000000 in
theorem sameNodes_any (A B : Option Addr) (ca cb : Nat) (l l' : List Int) (w : World) (hr : Rd w A (ivs l)) (hr' : Rd w B (ivs l')) (hl : l.length ≤ 140737488355328) :
    Calls Tryd.prog 72 #[.slice A l.length ca, .slice B l'.length cb] w fun e w' => e = .returned (.bool (decide (l = l'))) ∧ Below w.heap.size w w' := by
  by_cases hlen : l.length = l'.length
  · have e1 : ((l.length : Int) != (l'.length : Int)) = false := by simp [hlen]
    have HR := Lib.hid hr
    have HR' := Lib.hid hr'
    have HLEN := Lib.hid hlen
    clear hr hr' hlen
    go_enter Tryd.func72, Tryd.ntmps72
    go_wp2_with fail
    go_loopg [5] l.length (fun d i wr => ∃ k : Nat, k ≤ l.length ∧ d + k = l.length ∧ i = .int .i64 k ∧ Below w.heap.size w wr ∧ Hid (l.take k = l'.take k))
    case atStart => exact ⟨0, Nat.zero_le _, rfl, rfl, Below.refl _ _, rfl⟩
    case round =>
      obtain ⟨k, hk, hd, rfl, hB, HT⟩ := hrel
      have HD := Lib.hid hd
      have HB := Lib.hid hB
      clear hd hB
      by_cases hlt : k < l.length
      · have hlt' : k < l'.length := by have := HLEN.out; omega
        obtain ⟨ad, rfl, hc⟩ := (HR.out.below HB.out).int hlt
        obtain ⟨ad', rfl, hc'⟩ := (HR'.out.below HB.out).int hlt'
        have h1 := hc k hlt
        have h2 := hc' k hlt'
        generalize hx : l[k] = x at h1
        generalize hy : l'[k] = y at h2
        have HX := Lib.hid hx
        have HY := Lib.hid hy
        have b0 : (0 : Int) ≤ (k : Int) := Int.natCast_nonneg _
        have b1 : (k : Int) < (l.length : Int) := by omega
        have b2 : (k : Int) < (l'.length : Int) := by omega
        clear hc hc' hx hy
        go_wp2_with fail
        go_quiet (fail)
        go_wp2_with fail
        · go_ret
          refine ⟨ret_b (decide_eq_false (ne_at hlt hlt' ?_)).symm, below_drewN HB.out _⟩
          rw [HX.out, HY.out]
          go_light
          grind
        · go_roundg (l.length - (k + 1))
          case measure => have := HD.out; omega
          case rel =>
            refine ⟨k + 1, by omega, by omega, by go_num, below_drewN HB.out _, take_same hlt hlt' HT.out ?_⟩
            rw [HX.out, HY.out]
            go_light
            grind
      · go_wp2_with fail
        go_ret
        refine ⟨ret_b ?_, HB.out⟩
        have h := HT.out
        have := HLEN.out
        rw [List.take_of_length_le (by omega), List.take_of_length_le (by omega)] at h
        simp [h]
  · have e1 : ((l.length : Int) != (l'.length : Int)) = true := by simp; omega
    have HLEN := Lib.hid hlen
    clear hlen hr hr'
    go_enter Tryd.func72, Tryd.ntmps72
    go_wp2_with fail
    go_ret
    exact ⟨ret_b (decide_eq_false (fun e => HLEN.out (by rw [e]))).symm, Below.refl _ _⟩
end Go.Proofs.YtmgandacmhkndaaDoor
