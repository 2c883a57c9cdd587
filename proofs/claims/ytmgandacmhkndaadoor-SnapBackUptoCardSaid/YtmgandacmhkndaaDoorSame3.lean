/- ref17.Same: its walk. Conditions: the letters' lists read as such. -/
import Derived.Test.YtmgandacmhkndaaDoorSame2
namespace Go.Proofs.YtmgandacmhkndaaDoor
open Go.RowKit
set_option maxRecDepth 100000
set_option linter.unusedSimpArgs false

set_option maxHeartbeats 8000000 in
theorem same17_any (m m' : Let) (x x' : LMem) (w : World) (h : LetRd w m x) (h' : LetRd w m' x') :
    Calls Tryd.prog 19 #[.agg (lcells m x), .agg (lcells m' x')] w fun r w' => r = .returned (.bool (decide (m = m'))) ∧ Below w.heap.size w w' := by
  obtain ⟨k, f, t, tm, i, lt, c, rd, ok, es, sn⟩ := m
  obtain ⟨k', f', t', tm', i', lt', c', rd', ok', es', sn'⟩ := m'
  obtain ⟨Ae, Am, Ax, ce, cm, cx⟩ := x
  obtain ⟨Be, Bm, Bx, de, dm, dx⟩ := x'
  have HB := Lib.hid (two_below w (.cells (lcells ⟨k, f, t, tm, i, lt, c, rd, ok, es, sn⟩ ⟨Ae, Am, Ax, ce, cm, cx⟩) 28) (.cells (lcells ⟨k', f', t', tm', i', lt', c', rd', ok', es', sn'⟩ ⟨Be, Bm, Bx, de, dm, dx⟩) 28))
  have HC := Lib.hid (two_blk w 28 28 (lcells ⟨k, f, t, tm, i, lt, c, rd, ok, es, sn⟩ ⟨Ae, Am, Ax, ce, cm, cx⟩) (lcells ⟨k', f', t', tm', i', lt', c', rd', ok', es', sn'⟩ ⟨Be, Bm, Bx, de, dm, dx⟩))
  have HE := Lib.hid (And.intro h h')
  clear h h'
  unfold lcells at HB HC
  unfold lcells
  go_enter Tryd.func19, Tryd.ntmps19
  go_wp2_with fail
  refine (sameEntries_any Ae Be ce de es es' _ (HE.out.1.ents.below HB.out) (HE.out.2.ents.below HB.out) HE.out.1.el).mono ?_
  rintro r w1 ⟨rfl, hB1⟩
  have c1 := (HC.out.1.keep hB1).cells
  have c2 := (HC.out.2.keep hB1).cells
  have hw := below_then HB.out HB.out.size hB1
  have HW := Lib.hid hw
  have HB1 := Lib.hid hB1
  clear hB1 hw
  generalize hb : decide (es = es') = be
  have HBE := Lib.hid hb
  clear hb
  go_wp2_with fail
  refine (sameSnap_any sn sn' Am Ax Bm Bx cm cx dm dx _ (HE.out.1.nodes.below HW.out) (HE.out.1.data.below HW.out) (HE.out.2.nodes.below HW.out) (HE.out.2.data.below HW.out) HE.out.1.nl).mono ?_
  rintro r w2 ⟨rfl, hB2⟩
  have d1 := ((HC.out.1.keep HB1.out).keep hB2).cells
  have d2 := ((HC.out.2.keep HB1.out).keep hB2).cells
  have HW2 := Lib.hid (below_then HW.out HW.out.size hB2)
  clear hB2 HW HB1 HC HB HE c1 c2
  generalize hb : decide (sn = sn') = bs
  have HBS := Lib.hid hb
  clear hb
  go_wp2_with fail
  all_goals
    go_ret
    refine ⟨ret_b ?_, HW2.out⟩
    have hb := HBE.out
    have hs := HBS.out
    clear HBE HBS HW2 d1 d2
    go_light
    try rw [← hs]
    (try cases be) <;> simp at hb <;> simp [*] <;> grind
end Go.Proofs.YtmgandacmhkndaaDoor
