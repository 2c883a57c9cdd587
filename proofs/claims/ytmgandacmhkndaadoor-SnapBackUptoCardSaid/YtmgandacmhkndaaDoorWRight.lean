/- wire.Right: its walk. Conditions: the letter's lists read as such. -/
import Derived.Test.YtmgandacmhkndaaDoorWRight0
namespace Go.Proofs.YtmgandacmhkndaaDoor
open Go.RowKit
set_option maxRecDepth 100000

/-- What the last test makes of a letter, and of what it may have. -/
def rightEnd (m : Let) (eb sb fb : Bool) (wm : Let) : Bool :=
  if (!eb && !decide (m.ents.length = 0)) || (!sb && !noSnap m.snap) then false
  else fb && decide (m.kind = wm.kind ∧ m.index = wm.index ∧ m.logTerm = wm.logTerm ∧ m.commit = wm.commit ∧ m.round = wm.round ∧ m.ok = wm.ok)
def None3 : LMem := ⟨none, none, none, 0, 0, 0⟩
def want (k i l c r : Int) (ok : Bool) : Let := ⟨k, 0, 0, 0, i, l, c, r, ok, [], ⟨0, 0, [], []⟩⟩
section
variable {m : Let} {fb : Bool} (h1 : btw m.from_ 1 5 = true) (h2 : btw m.to_ 1 5 = true) (h3 : (m.from_ == m.to_) = false) (h4 : btw m.term 1 999999 = true)
include h1 h2 h3 h4
theorem hdr_yes : hdrOk m = true := by unfold hdrOk; grind
theorem end1 (HF : Hid (fb = numOk m)) (K : Hid (m.kind = 1)) : Hid (rightEnd m false false fb (want m.kind m.index m.logTerm 0 0 false) = rightB m) := by
  have hf := HF.out; have hk := K.out
  show _ = _
  unfold rightEnd rightB rightK want; rw [hdr_yes h1 h2 h3 h4, ← hf]; grind
theorem end2 (HF : Hid (fb = numOk m)) (K : Hid (m.kind = 2)) : Hid (rightEnd m false false fb (want m.kind 0 0 0 0 m.ok) = rightB m) := by
  have hf := HF.out; have hk := K.out
  show _ = _
  unfold rightEnd rightB rightK want; rw [hdr_yes h1 h2 h3 h4, ← hf]; grind
theorem end4 (HF : Hid (fb = numOk m)) (K : Hid (m.kind = 4)) : Hid (rightEnd m false false fb (want m.kind m.index 0 0 m.round m.ok) = rightB m) := by
  have hf := HF.out; have hk := K.out
  show _ = _
  unfold rightEnd rightB rightK want; rw [hdr_yes h1 h2 h3 h4, ← hf]; grind
theorem end3 {f : Bool} (HF : Hid (fb = numOk m)) (K : Hid (m.kind = 3)) (H : f = (fb && entsFrom m.term (m.index + 1) m.logTerm m.ents)) :
    Hid (rightEnd m true false (f && decide (m.ents.length ≤ 4)) (want m.kind m.index m.logTerm m.commit m.round false) = rightB m) := by
  have hf := HF.out; have hk := K.out
  show _ = _
  unfold rightEnd rightB rightK want; rw [hdr_yes h1 h2 h3 h4, ← hf, H]; grind
theorem end5 {f : Bool} (HF : Hid (fb = numOk m)) (K : Hid (m.kind = 5)) (H : f = (fb && (btw m.snap.index 1 999998 && btw m.snap.term 0 m.term && grp m.snap.nodes && decide (m.snap.data.length ≤ 300000)))) :
    Hid (rightEnd m false true f (want m.kind 0 0 0 m.round false) = rightB m) := by
  have hf := HF.out; have hk := K.out
  show _ = _
  unfold rightEnd rightB rightK want; rw [hdr_yes h1 h2 h3 h4, ← hf, H]; grind
end
def entsSo (m : Let) (fb f : Bool) (k : Nat) (t : Int) : Prop := (fb && entsFrom m.term (m.index + 1) m.logTerm m.ents) = (f && entsFrom m.term (m.index + 1 + k) t (m.ents.drop k))
theorem ents_start (m : Let) (fb : Bool) : entsSo m fb fb 0 m.logTerm := by simp [entsSo]
theorem ents_next {m : Let} {fb f v : Bool} {k : Nat} {t : Int} {e : Ent} (H : Hid (entsSo m fb f k t)) (hk : k < m.ents.length) (HX : Hid (m.ents[k] = e))
    (hv : v = (f && (entOk e && decide (e.index = m.index + 1 + k) && btw e.term t m.term))) : Hid (entsSo m fb v (k + 1) e.term) := by
  have h := H.out
  have hx := HX.out
  show entsSo _ _ _ _ _
  unfold entsSo at h ⊢
  rw [h, List.drop_eq_getElem_cons hk, hx, hv]
  simp only [entsFrom, Bool.and_assoc]
  rw [show m.index + 1 + (k : Int) + 1 = m.index + 1 + ((k + 1 : Nat) : Int) by omega]
theorem ents_end {m : Let} {fb f : Bool} {k : Nat} {t : Int} (H : Hid (entsSo m fb f k t)) (hk : ¬ k < m.ents.length) : f = (fb && entsFrom m.term (m.index + 1) m.logTerm m.ents) := by
  have h := H.out
  unfold entsSo at h
  rw [h, List.drop_of_length_le (by omega)]
  simp [entsFrom]
theorem num_of {m : Let} {fb : Bool} (HF : Hid (fb = numOk m)) (h : fb = true) : 0 ≤ m.index ∧ m.index ≤ 999999 := by
  have := HF.out
  unfold numOk at this
  have hb : btw m.index 0 999999 = true := by grind
  exact btw_true.1 hb
theorem len4 (n : Nat) : decide ((n : Int) ≤ 4) = decide (n ≤ 4) := by rw [decide_eq_decide]; omega
theorem right_odd {m : Let} (k1 : m.kind ≠ 1) (k2 : m.kind ≠ 2) (k3 : m.kind ≠ 3) (k4 : m.kind ≠ 4) (k5 : m.kind ≠ 5) : false = rightB m := by
  unfold rightB rightK; grind
theorem two_below (w : World) (o o' : Obj) : Below w.heap.size w ((w.alloc o).alloc o') := ((Below.refl _ _).alloc (Nat.le_refl _) _).alloc (by simp) _
theorem two_blk (w : World) (t t' : TypeId) (cs cs' : Array Value) : Blk ((w.alloc (.cells cs t)).alloc (.cells cs' t')) w.heap.size t cs ∧ Blk ((w.alloc (.cells cs t)).alloc (.cells cs' t')) (w.heap.size + 1) t' cs' :=
  ⟨(Blk.new w t cs).alloc _, by have := Blk.new (w.alloc (.cells cs t)) t' cs'; rw [alloc_size] at this; exact this⟩

set_option maxHeartbeats 4000000 in
theorem right_main (m : Let) (x : LMem) (w : World) (h : LetRd w m x) (h1 : btw m.from_ 1 5 = true) (h2 : btw m.to_ 1 5 = true) (h3 : (m.from_ == m.to_) = false) (h4 : btw m.term 1 999999 = true) :
    Calls Tryd.prog 16 #[.agg (lcells m x)] w fun r w' => r = .returned (.bool (rightB m)) ∧ Below w.heap.size w w' := by
  obtain ⟨Ae, Am, Ax, ce, cm, cx⟩ := x
  have hb1 := fun n lo hi (W : World) => between_any n lo hi W
  have Hbt := Lib.hid hb1
  clear hb1
  have Hh := Lib.hid h
  clear h
  unfold lcells
  go_enter Tryd.func16, Tryd.ntmps16
  go_upto_region 5 with (go_at_call 43; refine (Hbt.out _ _ _ _).mono ?_; rintro r w' ⟨rfl, rfl⟩)
  go_cut [6] (fun s wx => s = .bool (numOk m) ∧ wx = (w.alloc (.cells (lcells m ⟨Ae, Am, Ax, ce, cm, cx⟩) 28)).alloc (.cells (lcells ⟨m.kind, 0, 0, 0, 0, 0, 0, 0, false, [], ⟨0, 0, [], []⟩⟩ None3) 28))
  case first =>
    go_wp2_with (go_at_call 43; refine (Hbt.out _ _ _ _).mono ?_; rintro r w' ⟨rfl, rfl⟩)
    all_goals
      go_meet
      refine ⟨?_, rfl⟩
      unfold numOk
      go_light
      simp [*]
  case rest =>
    obtain ⟨rfl, rfl⟩ := hcut
    obtain ⟨fb, hfb⟩ : ∃ fb, fb = numOk m := ⟨_, rfl⟩
    rw [← hfb]
    have HF := Lib.hid hfb
    clear hfb
    unfold lcells None3
    go_upto_block 0 with fail
    go_cut [4, 5, 6] (fun s4 s5 s6 wx => ∃ (eb sb fb : Bool) (wm : Let), s4 = .bool eb ∧ s5 = .bool sb ∧ s6 = .bool fb ∧ Below w.heap.size w wx ∧
      Blk wx w.heap.size 28 (lcells m ⟨Ae, Am, Ax, ce, cm, cx⟩) ∧ Blk wx (w.heap.size + 1) 28 (lcells wm None3) ∧ Hid (rightEnd m eb sb fb wm = rightB m))
    case first =>
      by_cases k1 : m.kind = 1
      · have e1 : (m.kind == 1) = true := by simpa using k1
        have K1 := Lib.hid k1
        clear k1
        as_aux_lemma =>
          go_wp2_with fail
          go_region
          all_goals
            go_wp2_with fail
            go_meet
            exact ⟨_, _, _, want m.kind m.index m.logTerm 0 0 false, rfl, rfl, rfl, (two_below _ _ _).drew, (two_blk _ _ _ _ _).1.drew, (two_blk _ _ _ _ _).2.drew, end1 h1 h2 h3 h4 HF K1⟩
      · have e1 : (m.kind == 1) = false := by simpa using k1
        by_cases k2 : m.kind = 2
        · have e2 : (m.kind == 2) = true := by simpa using k2
          have K2 := Lib.hid k2
          clear k2 k1
          as_aux_lemma =>
            go_wp2_with fail
            go_meet
            exact ⟨_, _, _, want m.kind 0 0 0 0 m.ok, rfl, rfl, rfl, two_below _ _ _, (two_blk _ _ _ _ _).1, (two_blk _ _ _ _ _).2, end2 h1 h2 h3 h4 HF K2⟩
        · have e2 : (m.kind == 2) = false := by simpa using k2
          by_cases k4 : m.kind = 4
          · have e3 : (m.kind == 3) = false := by simp [k4]
            have e4 : (m.kind == 4) = true := by simpa using k4
            have K4 := Lib.hid k4
            clear k4 k1 k2
            as_aux_lemma =>
              go_wp2_with fail
              go_region
              all_goals
                go_wp2_with fail
                go_meet
                exact ⟨_, _, _, want m.kind m.index 0 0 m.round m.ok, rfl, rfl, rfl, (two_below _ _ _).drew, (two_blk _ _ _ _ _).1.drew, (two_blk _ _ _ _ _).2.drew, end4 h1 h2 h3 h4 HF K4⟩
          · have e4 : (m.kind == 4) = false := by simpa using k4
            by_cases k5 : m.kind = 5
            · have e3 : (m.kind == 3) = false := by simp [k5]
              have e5 : (m.kind == 5) = true := by simpa using k5
              have K5 := Lib.hid k5
              clear k5 k1 k2 k4
              have hg : ∀ W, Below w.heap.size w W → Calls Tryd.prog 45 #[.slice Am m.snap.nodes.length cm] W fun e w' => e = .returned (.bool (grp m.snap.nodes)) ∧ W = w' :=
                fun W hW => group_any _ _ _ _ (Hh.out.nodes.below hW) Hh.out.nl
              have Hg := Lib.hid hg
              clear hg
              as_aux_lemma =>
                go_wp2_with (first | (go_at_call 43; refine (Hbt.out _ _ _ _).mono ?_; rintro r w' ⟨rfl, rfl⟩) | (go_at_call 45; refine (Hg.out _ (two_below _ _ _)).mono ?_; rintro r w' ⟨rfl, rfl⟩))
                all_goals
                  go_meet
                  refine ⟨_, _, _, want m.kind 0 0 0 m.round false, rfl, rfl, rfl, two_below _ _ _, (two_blk _ _ _ _ _).1, (two_blk _ _ _ _ _).2, end5 h1 h2 h3 h4 HF K5 ?_⟩
                  go_light
                  grind
            · have e5 : (m.kind == 5) = false := by simpa using k5
              by_cases k3 : m.kind = 3
              · have e3 : (m.kind == 3) = true := by simpa using k3
                have K3 := Lib.hid k3
                clear k1 k2 k3 k4 k5
                as_aux_lemma =>
                  go_wp2_with fail
                  go_region
                  go_wp2_with fail
                  go_loopg [6, 7, 90] m.ents.length (fun d s6 s7 i wr => ∃ (k : Nat) (f : Bool) (t : Int), d + k = m.ents.length ∧ i = .int .i64 k ∧ s6 = .bool f ∧ s7 = .int .i64 t ∧ Below w.heap.size w wr ∧
                    Blk wr w.heap.size 28 (lcells m ⟨Ae, Am, Ax, ce, cm, cx⟩) ∧ Blk wr (w.heap.size + 1) 28 (lcells (want m.kind m.index m.logTerm m.commit m.round false) None3) ∧
                    Hid (entsSo m fb f k t) ∧ Hid (f = true → fb = true))
                  case atStart => exact ⟨0, fb, m.logTerm, rfl, rfl, rfl, rfl, (two_below _ _ _).drew, (two_blk _ _ _ _ _).1.drew, (two_blk _ _ _ _ _).2.drew, ents_start m fb, fun h => h⟩
                  case round =>
                    obtain ⟨k, f, t, hd, rfl, rfl, rfl, HB, B1, B2, HE, HF2⟩ := hrel
                    have hk : k ≤ m.ents.length := by omega
                    have HD := Lib.hid hd
                    clear hd
                    have hkl : m.ents.length ≤ 140737488355328 := Hh.out.el
                    by_cases hlt : k < m.ents.length
                    · obtain ⟨ad, Ad, An, cd, cn, rfl, hE, hC⟩ := Hh.out.ents.at_ hlt
                      generalize hx : m.ents[k] = e at hE hC
                      have HX := Lib.hid hx
                      have hkp : ∀ a v, w.cell? a = some v → wr.cell? a = some v := fun a v hc => cell_keep HB hc
                      obtain ⟨q0, q1, q2, q3, q4⟩ := hC.keep hkp
                      have Hent := Lib.hid (fun W (hW : Below w.heap.size w W) => entry_any e Ad An cd cn W (hE.keep fun a v hc => cell_keep hW hc))
                      have HBa : Below w.heap.size w (wr.alloc (.cells #[.int .i64 e.index, .int .i64 e.term, .int .i64 e.kind, .slice Ad e.data.length cd, .slice An e.nodes.length cn] 45)) := HB.alloc HB.size _
                      have Ba := Blk.new wr 45 #[.int .i64 e.index, .int .i64 e.term, .int .i64 e.kind, .slice Ad e.data.length cd, .slice An e.nodes.length cn]
                      have c1 := B1.cells
                      unfold lcells at c1
                      have HB1a := Lib.hid B1
                      have HB2a := Lib.hid B2
                      clear hx hkp hE hC B1 B2
                      cases f
                      · clear Ba HBa
                        go_wp2_with fail
                        go_roundg (m.ents.length - (k + 1))
                        case measure => have := HD.out; omega
                        case rel => exact ⟨k + 1, _, e.term, by omega, by go_num, rfl, rfl, HB.alloc HB.size _, HB1a.out.alloc _, HB2a.out.alloc _, ents_next HE hlt HX rfl, HF2.out⟩
                      · obtain ⟨hi0, hi1⟩ := num_of HF (HF2.out rfl)
                        have Hfb := Lib.hid (HF2.out rfl)
                        go_wp2_with (first
                          | (go_at_call 43; refine (Hbt.out _ _ _ _).mono ?_; rintro r w' ⟨rfl, rfl⟩)
                          | (go_at_call 44
                             refine (Hent.out _ HBa).mono ?_
                             rintro r w1 ⟨rfl, hb1⟩
                             have d1 := (Ba.below hb1 (by simp)).cells
                             have HBb := Lib.hid (below_then HBa HBa.size hb1)
                             have HB1b := Lib.hid ((HB1a.out.alloc (.cells #[.int .i64 e.index, .int .i64 e.term, .int .i64 e.kind, .slice Ad e.data.length cd, .slice An e.nodes.length cn] 45)).keep hb1)
                             have HB2b := Lib.hid ((HB2a.out.alloc (.cells #[.int .i64 e.index, .int .i64 e.term, .int .i64 e.kind, .slice Ad e.data.length cd, .slice An e.nodes.length cn] 45)).keep hb1)
                             have c2 := HB1b.out.cells
                             unfold lcells at c2
                             clear c1 q0 q1 q2 q3 q4 hb1 Ba HBa))
                        all_goals
                          go_roundg (m.ents.length - (k + 1))
                          case measure => have := HD.out; omega
                          case rel =>
                            refine ⟨k + 1, _, e.term, by omega, by go_num, rfl, rfl, HBb.out, HB1b.out, HB2b.out, ents_next HE hlt HX ?_, fun _ => Hfb.out⟩
                            clear d1 c2 HBb HB1b HB2b HB1a HB2a HB Hfb HF2 Hent HX HE HF Hh Hbt HD h1 h2 h3 h4 e1 e2 e3 e4 e5 K3
                            go_light
                            simp [*]
                    · have c1 := B1.cells
                      unfold lcells at c1
                      have HB1a := Lib.hid B1
                      clear B1
                      have HQ := Lib.hid (ents_end HE hlt)
                      cases f
                      · go_wp2_with fail
                        go_meet
                        exact ⟨_, _, _, want m.kind m.index m.logTerm m.commit m.round false, rfl, rfl, rfl, HB, HB1a.out, B2, end3 h1 h2 h3 h4 HF K3 HQ.out⟩
                      · go_wp2_with fail
                        go_meet
                        refine ⟨_, _, _, want m.kind m.index m.logTerm m.commit m.round false, rfl, rfl, rfl, HB, HB1a.out, B2, ?_⟩
                        rw [len4]
                        exact end3 h1 h2 h3 h4 HF K3 HQ.out
              · have e3 : (m.kind == 3) = false := by simpa using k3
                have K := Lib.hid (right_odd k1 k2 k3 k4 k5)
                clear k1 k2 k3 k4 k5
                as_aux_lemma =>
                  go_wp2_with fail
                  go_ret
                  exact ⟨ret_b K.out, two_below _ _ _⟩
    case rest =>
      as_aux_lemma =>
        obtain ⟨eb, sb, fb, wm, rfl, rfl, rfl, HB, B1, B2, HE⟩ := hcut
        have c1 := B1.cells
        have c2 := B2.cells
        unfold lcells at c1 c2
        obtain ⟨ne, hne⟩ : ∃ n, n = m.ents.length := ⟨_, rfl⟩
        obtain ⟨nn, hnn⟩ : ∃ n, n = m.snap.nodes.length := ⟨_, rfl⟩
        obtain ⟨nd, hnd⟩ : ∃ n, n = m.snap.data.length := ⟨_, rfl⟩
        obtain ⟨si, hsi⟩ : ∃ n, n = m.snap.index := ⟨_, rfl⟩
        obtain ⟨st, hst⟩ : ∃ n, n = m.snap.term := ⟨_, rfl⟩
        rw [← hne, ← hnn, ← hnd, ← hsi, ← hst] at c1
        have HQ := Lib.hid (And.intro hne (And.intro hnn (And.intro hnd (And.intro hsi hst))))
        clear B1 B2 hne hnn hnd hsi hst
        have hlt : ∀ w1, Below wc.heap.size wc w1 → Below w.heap.size w w1 := fun w1 h => below_then HB HB.size h
        cases eb <;> cases sb <;> cases fb
        all_goals
          go_wp2_with (go_at_call 46; refine (same_any _ _ _ _ _ _ _ _ _ _ _ _ _ _ _ _ _ _ _ _ _ _ _ _ _ _ _ _ _).mono ?_; rintro r w1 ⟨rfl, HB1⟩)
        all_goals
          go_ret
          refine ⟨ret_b ?_, (by first | exact HB | exact hlt _ (by assumption))⟩
          rw [← HE.out]
          obtain ⟨q1, q2, q3, q4, q5⟩ := HQ.out
          clear HE HQ hlt c1 c2
          go_light
          unfold rightEnd noSnap
          grind

/-- wire.Right, of every letter. -/
theorem right_any (m : Let) (x : LMem) (w : World) (h : LetRd w m x) :
    Calls Tryd.prog 16 #[.agg (lcells m x)] w fun r w' => r = .returned (.bool (rightB m)) ∧ Below w.heap.size w w' := by
  cases hh : hdrOk m
  · exact right_hdr m x w hh
  · unfold hdrOk at hh
    simp only [Bool.and_eq_true, Bool.not_eq_true', decide_eq_false_iff_not] at hh
    exact right_main m x w h hh.1.1.1 hh.1.1.2 (by simpa using hh.1.2) hh.2
end Go.Proofs.YtmgandacmhkndaaDoor
