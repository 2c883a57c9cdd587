/- snap.Decode of [83, 0]: its walk. -/
import Derived.Test.YtmgandacmhkndaaDoorSRdr
import Derived.Test.YtmgandacmhkndaaDoorSEnc
import Derived.Test.YtmgandacmhkndaaDoorDefer
namespace Go.Proofs.YtmgandacmhkndaaDoor
open Go.RowKit
set_option maxRecDepth 100000
set_option linter.unusedSimpArgs false

theorem rn1 : rnum [83, 0] 8 1 = .ok (0, 2) := by rfl
theorem rn2 : rnum [83, 0] 64 2 = .error 2 := by rfl

set_option maxHeartbeats 4000000 in
theorem store0_any (g : Nat) (A : Option Addr) (c : Nat) (w : World) (h : SRdr w g [83, 0] 1 A c) :
    Calls Tryd.prog 64 #[.pointer (some ⟨g, 0, none⟩)] w fun e w' =>
      e = .panicked [{ v := .iface 112 (.agg #[]), recovered := false }] ∧ w.grownBy w' (some g) ∧ SRdr w' g [83, 0] 2 A c := by
  have HH := Lib.hid h
  clear h
  go_enter Tryd.func64, Tryd.ntmps64
  go_wp2_with fail
  have hk := HH.out.keep ((Below.refl w.heap.size w).alloc (Nat.le_refl _) (.cells #[.slice none 0 0, .slice none 0 0] 61))
  refine (snum_any [83, 0] 8 1 g A c _ hk (by omega)).mono ?_
  rintro e w1 ⟨hg1, ⟨n, a', hn, rfl, hR⟩ | ⟨hn, _⟩⟩
  rotate_left
  · rw [rn1] at hn; cases hn
  rw [rn1] at hn
  injection hn with hn
  simp only [Prod.mk.injEq] at hn
  obtain ⟨rfl, rfl⟩ := hn
  have HG1 := Lib.hid hg1
  have HR := Lib.hid hR
  clear hg1 hR hk
  go_wp2_with fail
  go_loopg [9] 0 (fun d s7 wr => d = 0 ∧ w1 = wr ∧ s7 = .int .i64 0)
  case atStart => exact ⟨rfl, rfl, rfl⟩
  case round =>
    obtain ⟨rfl, rfl, rfl⟩ := hrel
    go_wp2_with fail
    refine (snum_any [83, 0] 64 2 g A c _ HR.out (by omega)).mono ?_
    rintro e w2 ⟨hg2, ⟨n, a', hn, _⟩ | ⟨_, rfl, hR2⟩⟩
    · rw [rn2] at hn; cases hn
    have HG2 := Lib.hid hg2
    have HR2 := Lib.hid hR2
    clear hg2 hR2
    go_wp2_with fail
    refine ⟨rfl, rfl, ?_, HR2.out⟩
    have h0 : w.grownBy (w.alloc (.cells #[.slice none 0 0, .slice none 0 0] 61)) (some g) :=
      ⟨rfl, rfl, rfl, by rw [alloc_size]; omega, fun i hi _ => Below.heap_alloc w _ i hi⟩
    exact (h0.trans HG1.out).trans HG2.out
end Go.Proofs.YtmgandacmhkndaaDoor
