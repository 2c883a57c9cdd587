/- law17.WireApart: its walk. Conditions: errors.errorType holds the handle of the type error; the letters' lists read as such. -/
import Derived.Test.YtmgandacmhkndaaDoorShown
import Derived.Test.YtmgandacmhkndaaDoorLarge
namespace Go.Proofs.YtmgandacmhkndaaDoor
open Go.RowKit
set_option maxRecDepth 100000
set_option linter.unusedSimpArgs false

structure Kept2 (w W : World) (t : TypeId) (cs ds : Array Value) : Prop where
  below : Below w.heap.size w W
  one : Blk W w.heap.size t cs
  two : Blk W (w.heap.size + 1) t ds
theorem Kept2.start (w : World) (t : TypeId) (cs ds : Array Value) : Kept2 w ((w.alloc (.cells cs t)).alloc (.cells ds t)) t cs ds := ⟨two_below _ _ _, (two_blk _ _ _ _ _).1, (two_blk _ _ _ _ _).2⟩
theorem Kept2.step {w W W' : World} {t : TypeId} {cs ds : Array Value} (h : Kept2 w W t cs ds) (hb : Below W.heap.size W W') : Kept2 w W' t cs ds := ⟨h.below.trans (hb.mono h.below.size), h.one.keep hb, h.two.keep hb⟩

set_option maxHeartbeats 8000000 in
theorem apart_any (a b : Let) (x y : LMem) (w : World) (hg : ErrT w) (ha : LetRd w a x) (hb : LetRd w b y) :
    Calls Tryd.prog 5 #[.agg (lcells a x), .agg (lcells b y)] w fun e w' => e = .returned (.bool true) ∧ Below w.heap.size w w' := by
  have HG := Lib.hid hg
  have HA := Lib.hid ha
  have HB := Lib.hid hb
  have HK0 := Lib.hid (Kept2.start w 28 (lcells a x) (lcells b y))
  clear hg ha hb
  unfold lcells
  go_enter Tryd.func5, Tryd.ntmps5
  go_wp2_with fail
  refine (shown_any _ (HG.out.keep HK0.out.below)).mono ?_
  rintro e w1 ⟨rfl, hb1⟩
  have hk1 := HK0.out.step hb1
  have HK1 := Lib.hid hk1
  have c1 := hk1.one.cells
  unfold lcells at c1
  clear hb1 hk1
  go_wp2_with fail
  refine (large_any a x w1 (HA.out.below HK1.out.below)).mono ?_
  rintro e w2 ⟨⟨q1, rfl⟩, hb2⟩
  have hk2 := HK1.out.step hb2
  have HK2 := Lib.hid hk2
  have c2 := hk2.two.cells
  unfold lcells at c2
  clear hb2 hk2 c1
  go_wp2_with fail
  refine (large_any b y w2 (HB.out.below HK2.out.below)).mono ?_
  rintro e w3 ⟨⟨q2, rfl⟩, hb3⟩
  have hk3 := HK2.out.step hb3
  have HK3 := Lib.hid hk3
  have c3 := hk3.one.cells
  unfold lcells at c3
  clear hb3 hk3 c2
  cases q1
  rotate_left
  · go_wp2_with fail
    go_ret
    exact ⟨rfl, HK3.out.below⟩
  cases q2
  rotate_left
  · go_wp2_with fail
    go_ret
    exact ⟨rfl, HK3.out.below⟩
  go_wp2_with fail
  refine (enc_any a x w3 (HA.out.below HK3.out.below)).mono ?_
  rintro e w4 ⟨hb4, hp4⟩
  have hk4 := HK3.out.step hb4
  have HK4 := Lib.hid hk4
  have c4 := hk4.two.cells
  unfold lcells at c4
  clear hb4 hk4 c3
  cases hRa : rightB a
  · rw [hRa] at hp4
    simp only [Bool.false_eq_true, if_false] at hp4
    obtain rfl := hp4
    clear hRa
    go_wp2_with fail
    refine (enc_any b y w4 (HB.out.below HK4.out.below)).mono ?_
    rintro e w5 ⟨hb5, hp5⟩
    have hk5 := HK4.out.step hb5
    have HK5 := Lib.hid hk5
    have c5 := hk5.two.cells
    have d5 := hk5.one.cells
    unfold lcells at c5 d5
    clear hb5 hk5 c4
    cases hRb : rightB b
    · rw [hRb] at hp5
      simp only [Bool.false_eq_true, if_false] at hp5
      obtain rfl := hp5
      clear hRb
      go_wp2_with fail
      refine (same17_any a b x y w5 (HA.out.below HK5.out.below) (HB.out.below HK5.out.below)).mono ?_
      rintro e w6 ⟨rfl, hb6⟩
      have HK6 := Lib.hid (HK5.out.step hb6)
      clear hb6
      go_wp2_with fail
      go_ret
      exact ⟨rfl, HK6.out.below⟩
    · rw [if_pos hRb] at hp5
      obtain ⟨v5, rfl, hO5⟩ := hp5
      clear hRb hO5
      go_wp2_with fail
      refine (same17_any a b x y w5 (HA.out.below HK5.out.below) (HB.out.below HK5.out.below)).mono ?_
      rintro e w6 ⟨rfl, hb6⟩
      have HK6 := Lib.hid (HK5.out.step hb6)
      clear hb6
      go_wp2_with fail
      go_ret
      exact ⟨rfl, HK6.out.below⟩
  · rw [if_pos hRa] at hp4
    obtain ⟨v4, rfl, hO4⟩ := hp4
    obtain ⟨A4, k4, rfl, _, _⟩ := own_slice hO4
    have HRa := Lib.hid hRa
    have HO4 := Lib.hid (Rd.of_own hO4)
    clear hRa hO4
    go_wp2_with fail
    refine (enc_any b y w4 (HB.out.below HK4.out.below)).mono ?_
    rintro e w5 ⟨hb5, hp5⟩
    have hk5 := HK4.out.step hb5
    have HK5 := Lib.hid hk5
    have c5 := hk5.two.cells
    have d5 := hk5.one.cells
    unfold lcells at c5 d5
    have HO5 := Lib.hid (HO4.out.below hb5)
    clear hb5 hk5 c4 HO4
    cases hRb : rightB b
    · rw [hRb] at hp5
      simp only [Bool.false_eq_true, if_false] at hp5
      obtain rfl := hp5
      clear hRb
      go_wp2_with fail
      refine (same17_any a b x y w5 (HA.out.below HK5.out.below) (HB.out.below HK5.out.below)).mono ?_
      rintro e w6 ⟨rfl, hb6⟩
      have HK6 := Lib.hid (HK5.out.step hb6)
      clear hb6
      go_wp2_with fail
      go_ret
      exact ⟨rfl, HK6.out.below⟩
    · rw [if_pos hRb] at hp5
      obtain ⟨v5, rfl, hP5⟩ := hp5
      obtain ⟨A5, k5, rfl, _, _⟩ := own_slice hP5
      have HRb := Lib.hid hRb
      have HP5 := Lib.hid (Rd.of_own hP5)
      clear hRb hP5
      go_wp2_with fail
      refine (same17_any a b x y w5 (HA.out.below HK5.out.below) (HB.out.below HK5.out.below)).mono ?_
      rintro e w6 ⟨rfl, hb6⟩
      have HK6 := Lib.hid (HK5.out.step hb6)
      have v1 := str_conv A4 k4 (encF a) (HO5.out.below hb6)
      have v2 := str_conv A5 k5 (encF b) (HP5.out.below hb6)
      have HEQ := Lib.hid (enc_inj HRa.out HRb.out)
      clear hb6 c5 d5
      generalize hs : decide (a = b) = sb
      have HSB := Lib.hid hs
      clear hs
      go_wp2_with fail
      all_goals
        go_ret
        refine ⟨ret_b ?_, HK6.out.below⟩
        have hq := HEQ.out
        have hs := HSB.out
        clear v1 v2 HEQ HSB HK6 HRa HRb HA HB HG HK0 HK1 HK2 HK3 HK4 HK5 HO5 HP5
        go_light
        subst hs
        by_cases hab : a = b
        · simp [hab]
        · have : ¬ encF a = encF b := fun h => hab (hq.1 h)
          simp [hab, this]
end Go.Proofs.YtmgandacmhkndaaDoor
