/- law17.large: its walk: it returns. Conditions: the letter's lists read as such. -/
import Derived.Test.YtmgandacmhkndaaDoorLetM
import Derived.Test.YtmgandacmhkndaaDoorProg
import Derived.WalkKit
import Derived.WalkLawsBesides
import Derived.WalkSpells
import Derived.Deep.Light
import Derived.Deep.QuietTactic
import Derived.BigQuiet
namespace Go.Proofs.YtmgandacmhkndaaDoor
open Go.RowKit
set_option maxRecDepth 100000
set_option linter.unusedSimpArgs false

def LargePost (w : World) (e : Ending) (w' : World) : Prop := (∃ b, e = .returned (.bool b)) ∧ Below w.heap.size w w'
set_option maxHeartbeats 4000000 in
theorem large_any (m : Let) (x : LMem) (w : World) (h : LetRd w m x) :
    Calls Tryd.prog 12 #[.agg (lcells m x)] w (LargePost w) := by
  obtain ⟨Ae, Am, Ax, ce, cm, cx⟩ := x
  have HL := Lib.hid h
  have hel : m.ents.length ≤ 140737488355328 := h.el
  have hnl : m.snap.nodes.length ≤ 140737488355328 := h.nl
  have hdl : m.snap.data.length ≤ 140737488355328 := h.dl
  clear h
  unfold lcells
  go_enter Tryd.func12, Tryd.ntmps12
  go_wp2_with fail
  go_loopg [3, 4] m.ents.length (fun d s3 s4 wr => ∃ (n k : Nat), n ≤ 281474977710656 ∧ k ≤ m.ents.length ∧ d + k = m.ents.length ∧ s3 = .int .i64 n ∧ s4 = .int .i64 k ∧ Below w.heap.size w wr ∧ Blk wr w.heap.size 28 (lcells m ⟨Ae, Am, Ax, ce, cm, cx⟩))
  case atStart =>
    refine ⟨m.snap.data.length + m.snap.nodes.length, 0, by omega, Nat.zero_le _, rfl, by go_num, rfl, (Below.refl _ _).alloc (Nat.le_refl _) _, Blk.new _ _ _⟩
  case round =>
    obtain ⟨n, k, hn, hk, hd, rfl, rfl, hB, hC⟩ := hrel
    have HD := Lib.hid hd
    have HB := Lib.hid hB
    have c1 := hC.cells
    have HC := Lib.hid hC
    unfold lcells at c1
    clear hd hB hC
    by_cases hlt : k < m.ents.length
    · by_cases hnn : n ≤ 400000
      · obtain ⟨ad, Ad, An, cd, cn, rfl, hE, hC⟩ := HL.out.ents.at_ hlt
        have e1 := hE.dl
        have e2 := hE.nl
        generalize hx : m.ents[k] = e at hE hC e1 e2
        obtain ⟨q0, q1, q2, q3, q4⟩ := hC.keep (fun a v hc => cell_keep HB.out hc)
        have b0 : (0 : Int) ≤ (k : Int) := Int.natCast_nonneg _
        have b1 : (k : Int) < (m.ents.length : Int) := by omega
        clear hE hC hx
        go_wp2_with fail
        go_quiet (fail)
        go_wp2_with fail
        go_roundg (m.ents.length - (k + 1))
        case measure => have := HD.out; omega
        case rel =>
          exact ⟨n + 400 + e.data.length + e.nodes.length, k + 1, by omega, by omega, by omega, by go_num, by go_num, below_drewN HB.out _, HC.out.drewN _⟩
      · go_wp2_with fail
        go_ret
        exact ⟨⟨_, rfl⟩, HB.out⟩
    · go_wp2_with fail
      all_goals
        go_ret
        exact ⟨⟨_, rfl⟩, HB.out⟩
end Go.Proofs.YtmgandacmhkndaaDoor
