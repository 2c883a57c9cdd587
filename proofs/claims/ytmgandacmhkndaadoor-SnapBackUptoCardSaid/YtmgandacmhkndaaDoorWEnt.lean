/- wire.between, wire.group, wire.entry: their walks. Conditions: the lists read as such. -/
import Derived.Test.YtmgandacmhkndaaDoorProg
import Derived.Test.YtmgandacmhkndaaDoorLetM
import Derived.WalkKit
import Derived.WalkLawsBesides
import Derived.WalkSpells
import Derived.Deep.Light
namespace Go.Proofs.YtmgandacmhkndaaDoor
open Go.RowKit
set_option maxRecDepth 100000

theorem between_any (n lo hi : Int) (w : World) :
    Calls Tryd.prog 43 #[.int .i64 n, .int .i64 lo, .int .i64 hi] w fun e w' => e = .returned (.bool (btw n lo hi)) ∧ w = w' := by
  go_enter Tryd.func43, Tryd.ntmps43
  go_wp2
  all_goals
    go_ret
    exact ⟨ret_b (by simp [btw]; try omega), rfl⟩

theorem grp_no {l : List Int} {k : Nat} {x : Int} (H : Hid (grpFrom 0 l = grpFrom (prev l k) (l.drop k))) (hk : k < l.length) (HX : Hid (l[k] = x)) (h : ¬ (1 ≤ x ∧ x ≤ 5 ∧ prev l k < x)) : grp l = false := by
  unfold grp; rw [H.out, grp_step _ _ _ hk, HX.out, decide_eq_false h]; rfl
theorem grp_next {l : List Int} {k : Nat} {x : Int} (H : Hid (grpFrom 0 l = grpFrom (prev l k) (l.drop k))) (hk : k < l.length) (HX : Hid (l[k] = x)) (h : (1 ≤ x ∧ x ≤ 5 ∧ prev l k < x)) : Hid (grpFrom 0 l = grpFrom (prev l (k+1)) (l.drop (k+1))) := by
  show _ = _
  rw [H.out, grp_step _ _ _ hk, prev_succ _ _ hk, HX.out, decide_eq_true h]; rfl
theorem grp_end {l : List Int} {k : Nat} (H : Hid (grpFrom 0 l = grpFrom (prev l k) (l.drop k))) (hk : ¬ k < l.length) : decide (0 < l.length) = grp l := by
  unfold grp; rw [H.out, List.drop_of_length_le (by omega)]; cases l <;> simp [grpFrom]

set_option maxHeartbeats 1000000 in
theorem group_any (A : Option Addr) (c : Nat) (l : List Int) (w : World) (hr : Rd w A (ivs l)) (hl : l.length ≤ 140737488355328) :
    Calls Tryd.prog 45 #[.slice A l.length c] w fun e w' => e = .returned (.bool (grp l)) ∧ w = w' := by
  go_enter Tryd.func45, Tryd.ntmps45
  go_wp2
  go_loopg [7] l.length (fun d i wr => ∃ k : Nat, k ≤ l.length ∧ d + k = l.length ∧ w = wr ∧ i = .int .i64 k ∧ Hid (grpFrom 0 l = grpFrom (prev l k) (l.drop k)))
  case atStart => exact ⟨0, Nat.zero_le _, rfl, rfl, rfl, rfl⟩
  case round =>
    obtain ⟨k, hk, hd, rfl, rfl, hg⟩ := hrel
    have HD := Lib.hid hd
    clear hd
    by_cases hlt : k < l.length
    · obtain ⟨ad, rfl, hc⟩ := hr.int hlt
      have h1 := hc k hlt
      generalize hx : l[k] = x at h1
      have HX := Lib.hid hx
      clear hx hr
      by_cases h0 : 0 < k
      · have h2 := hc (k - 1) (by omega)
        have hp : prev l k = l[k-1]'(by omega) := by unfold prev; rw [if_neg (by omega), List.getD_eq_getElem?_getD, List.getElem?_eq_getElem (by omega)]; rfl
        generalize l[k-1]'(by omega) = y at h2 hp
        have HP := Lib.hid hp
        clear hp hc
        go_wp2
        all_goals first
          | (go_ret; exact ⟨ret_b (grp_no hg hlt HX (by rw [HP.out]; omega)).symm, rfl⟩)
          | (go_roundg (l.length - (k+1)); case measure => have := HD.out; omega
             case rel => exact ⟨k+1, by omega, by omega, rfl, by go_num, grp_next hg hlt HX (by rw [HP.out]; omega)⟩)
      · have hp : prev l k = 0 := by unfold prev; rw [if_pos (by omega)]
        have HP := Lib.hid hp
        clear hp hc
        go_wp2
        all_goals first
          | (go_ret; exact ⟨ret_b (grp_no hg hlt HX (by rw [HP.out]; omega)).symm, rfl⟩)
          | (go_roundg (l.length - (k+1)); case measure => have := HD.out; omega
             case rel => exact ⟨k+1, by omega, by omega, rfl, by go_num, grp_next hg hlt HX (by rw [HP.out]; omega)⟩)
    · clear hr
      go_wp2
      go_ret
      exact ⟨ret_b (grp_end hg hlt), rfl⟩

set_option maxHeartbeats 1000000 in
theorem entry_any (e : Ent) (Ad An : Option Addr) (cd cn : Nat) (w : World) (h : EntRd w e Ad An cd cn) :
    Calls Tryd.prog 44 #[.agg #[.int .i64 e.index, .int .i64 e.term, .int .i64 e.kind, .slice Ad e.data.length cd, .slice An e.nodes.length cn]] w
      fun r w' => r = .returned (.bool (entOk e)) ∧ Below w.heap.size w w' := by
  obtain ⟨hd, hn, hdc, hnc, hdl, hnl⟩ := h
  have HB := (Below.refl w.heap.size w).alloc (Nat.le_refl _) (.cells #[.int .i64 e.index, .int .i64 e.term, .int .i64 e.kind, .slice Ad e.data.length cd, .slice An e.nodes.length cn] 45)
  have HN := Lib.hid (hn.below HB)
  clear hn hd
  go_enter Tryd.func44, Tryd.ntmps44
  go_wp2_with (go_at_call 45; refine (group_any An cn e.nodes _ HN.out hnl).mono ?_; rintro r w' ⟨rfl, rfl⟩)
  all_goals
    go_ret
    refine ⟨ret_b ?_, HB⟩
    clear HB HN
    go_light
    unfold entOk btw
    grind
end Go.Proofs.YtmgandacmhkndaaDoor
