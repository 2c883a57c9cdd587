/- wire.Decode: its walk. Conditions: the bytes are known. -/
import Derived.Test.YtmgandacmhkndaaDoorDefer
import Derived.Test.YtmgandacmhkndaaDoorClone
import Derived.Test.YtmgandacmhkndaaDoorWRight
namespace Go.Proofs.YtmgandacmhkndaaDoor
open Go.RowKit
set_option maxRecDepth 100000
set_option linter.unusedSimpArgs false

/-- What Decode hands back: the letter, or the place of the fault. -/
def decF (b : List UInt8) : Except Nat Let :=
  match letF b 0 with
  | .error p => .error p
  | .ok (m, a) => if a < b.length then .error a else if rightB m then .ok m else .error 0
def DecPost (b : List UInt8) (w : World) (e : Ending) (w' : World) : Prop :=
  Below w.heap.size w w' ∧ ((∃ m x, decF b = .ok m ∧ e = .returned (.tuple #[.agg (lcells m x), .nilIface]) ∧ LetF w' w.heap.size m x) ∨
    (∃ p fb, decF b = .error p ∧ e = .returned (.tuple #[.agg zero14, .iface 84 (.pointer (some ⟨fb, 0, none⟩))]) ∧ w.heap.size ≤ fb ∧ Blk w' fb 42 #[.int .i64 p, .int .i64 12]))

theorem LetF.weaken {w : World} {base base' : Nat} {m : Let} {x : LMem} (h : LetF w base m x) (hb : base' ≤ base) : LetF w base' m x := by
  obtain ⟨l, hl, he⟩ := h.ents
  exact ⟨⟨l, hl, own_weaken he.own hb, fun p hp => let q := he.each p hp; ⟨q.fresh.weaken hb, own_weaken q.nodes hb, q.dc, q.dl, q.nl⟩⟩, own_weaken h.nodes hb, h.data.weaken hb, h.dc, h.el, h.nl, h.dl⟩
theorem below_read {w w1 w2 : World} {o : Obj} (h : Below w.heap.size w w1) (hg : (w1.alloc o).grownBy w2 (some w1.heap.size)) : Below w.heap.size w w2 := by
  have h1 := h.size
  have h2 := hg.size
  rw [alloc_size] at h2
  refine ⟨hg.os.trans h.os, hg.tape.trans h.tape, hg.output.trans h.output, by omega, fun i hi => ?_⟩
  exact (hg.block i (by rw [alloc_size]; omega) (by intro e; injection e with e; omega)).trans ((Below.heap_alloc w1 _ i (by omega)).trans (h.block i hi))
/-- Decode's boxes and its letter. -/
structure DFin (w W : World) (g : Nat) (m : Let) (x : LMem) (zs : Array Value) (y : Value) : Prop where
  below : Below w.heap.size w W
  r : ∃ rs, Blk W g 88 rs
  p : Blk W w.heap.size 28 zs
  q : Blk W (w.heap.size + 1) 37 #[y]
  f : LetF W w.heap.size m x
theorem DFin.set_ {w W : World} {g : Nat} {m : Let} {x : LMem} {zs : Array Value} {y : Value} (h : DFin w W g m x zs y) (i : Nat) (u : Value) :
    DFin w (W.setCell ⟨w.heap.size, i, none⟩ u) g m x (zs.setIfInBounds i u) y := by
  have ho := only_set W w.heap.size i u g
  obtain ⟨l, hl, he⟩ := h.f.ents
  obtain ⟨rs, hr⟩ := h.r
  have hne : g ≠ w.heap.size := hr.ne_ h.p (by decide)
  exact ⟨h.below.setCell (Nat.le_refl _) u, ⟨rs, hr.far hne u⟩, h.p.set_ i u, h.q.far (by simp) u,
    ⟨⟨l, hl, ents_only hr h.p ho he⟩, own_only hr h.p ho h.f.nodes (by decide) (by decide), fresh_only hr h.p ho h.f.data (by decide) (by decide), h.f.dc, h.f.el, h.f.nl, h.f.dl⟩⟩
theorem DFin.set14 {w W : World} {g : Nat} {m : Let} {x : LMem} {y z0 z1 z2 z3 z4 z5 z6 z7 z8 z9 z10 z11 z12 z13 : Value} (h : DFin w W g m x #[z0, z1, z2, z3, z4, z5, z6, z7, z8, z9, z10, z11, z12, z13] y) (v0 v1 v2 v3 v4 v5 v6 v7 v8 v9 v10 v11 v12 v13 : Value) :
    DFin w ((((((((((((((W.setCell ⟨w.heap.size, 0, none⟩ v0).setCell ⟨w.heap.size, 1, none⟩ v1).setCell ⟨w.heap.size, 2, none⟩ v2).setCell ⟨w.heap.size, 3, none⟩ v3).setCell ⟨w.heap.size, 4, none⟩ v4).setCell ⟨w.heap.size, 5, none⟩ v5).setCell ⟨w.heap.size, 6, none⟩ v6).setCell ⟨w.heap.size, 7, none⟩ v7).setCell ⟨w.heap.size, 8, none⟩ v8).setCell ⟨w.heap.size, 9, none⟩ v9).setCell ⟨w.heap.size, 10, none⟩ v10).setCell ⟨w.heap.size, 11, none⟩ v11).setCell ⟨w.heap.size, 12, none⟩ v12).setCell ⟨w.heap.size, 13, none⟩ v13) g m x #[v0, v1, v2, v3, v4, v5, v6, v7, v8, v9, v10, v11, v12, v13] y := by
  have h : DFin w _ g m x #[v0, z1, z2, z3, z4, z5, z6, z7, z8, z9, z10, z11, z12, z13] y := DFin.set_ h 0 v0
  have h : DFin w _ g m x #[v0, v1, z2, z3, z4, z5, z6, z7, z8, z9, z10, z11, z12, z13] y := DFin.set_ h 1 v1
  have h : DFin w _ g m x #[v0, v1, v2, z3, z4, z5, z6, z7, z8, z9, z10, z11, z12, z13] y := DFin.set_ h 2 v2
  have h : DFin w _ g m x #[v0, v1, v2, v3, z4, z5, z6, z7, z8, z9, z10, z11, z12, z13] y := DFin.set_ h 3 v3
  have h : DFin w _ g m x #[v0, v1, v2, v3, v4, z5, z6, z7, z8, z9, z10, z11, z12, z13] y := DFin.set_ h 4 v4
  have h : DFin w _ g m x #[v0, v1, v2, v3, v4, v5, z6, z7, z8, z9, z10, z11, z12, z13] y := DFin.set_ h 5 v5
  have h : DFin w _ g m x #[v0, v1, v2, v3, v4, v5, v6, z7, z8, z9, z10, z11, z12, z13] y := DFin.set_ h 6 v6
  have h : DFin w _ g m x #[v0, v1, v2, v3, v4, v5, v6, v7, z8, z9, z10, z11, z12, z13] y := DFin.set_ h 7 v7
  have h : DFin w _ g m x #[v0, v1, v2, v3, v4, v5, v6, v7, v8, z9, z10, z11, z12, z13] y := DFin.set_ h 8 v8
  have h : DFin w _ g m x #[v0, v1, v2, v3, v4, v5, v6, v7, v8, v9, z10, z11, z12, z13] y := DFin.set_ h 9 v9
  have h : DFin w _ g m x #[v0, v1, v2, v3, v4, v5, v6, v7, v8, v9, v10, z11, z12, z13] y := DFin.set_ h 10 v10
  have h : DFin w _ g m x #[v0, v1, v2, v3, v4, v5, v6, v7, v8, v9, v10, v11, z12, z13] y := DFin.set_ h 11 v11
  have h : DFin w _ g m x #[v0, v1, v2, v3, v4, v5, v6, v7, v8, v9, v10, v11, v12, z13] y := DFin.set_ h 12 v12
  have h : DFin w _ g m x #[v0, v1, v2, v3, v4, v5, v6, v7, v8, v9, v10, v11, v12, v13] y := DFin.set_ h 13 v13
  exact h

theorem DFin.setq {w W : World} {g : Nat} {m : Let} {x : LMem} {zs : Array Value} {y : Value} (h : DFin w W g m x zs y) (u : Value) :
    DFin w (W.setCell ⟨w.heap.size + 1, 0, none⟩ u) g m x zs u := by
  have ho := only_set W (w.heap.size + 1) 0 u g
  obtain ⟨l, hl, he⟩ := h.f.ents
  obtain ⟨rs, hr⟩ := h.r
  have hne : g ≠ w.heap.size + 1 := hr.ne_ h.q (by decide)
  have hq := h.q
  refine ⟨h.below.setCell (by simp) u, ⟨rs, hr.far hne u⟩, h.p.far (by simp) u, h.q.set_ 0 u, ⟨⟨l, hl, ?_⟩, own_only hr hq ho h.f.nodes (by decide) (by decide), fresh_only hr hq ho h.f.data (by decide) (by decide), h.f.dc, h.f.el, h.f.nl, h.f.dl⟩⟩
  exact ⟨own_only hr hq ho he.own (by decide) (by decide), fun p hp => let q := he.each p hp; ⟨fresh_only hr hq ho q.fresh (by decide) (by decide), own_only hr hq ho q.nodes (by decide) (by decide), q.dc, q.dl, q.nl⟩⟩
theorem results_dec (tmps : Array Value) (w : World) (pb qb : Nat) (cs : Array Value) (y : Value) (hp : tmps.getD 2 undef = .pointer (some ⟨pb, 0, none⟩)) (hq : tmps.getD 3 undef = .pointer (some ⟨qb, 0, none⟩))
    (hP : Blk w pb 28 cs) (hs : cs.size = 14) (hQ : Blk w qb 37 #[y]) : (results Tryd.f18 tmps).run Tryd.prog w = .ok (.tuple #[.agg cs, y]) w := by
  have h1 : tmps[2]?.getD undef = .pointer (some ⟨pb, 0, none⟩) := by simpa using hp
  have h2 : tmps[3]?.getD undef = .pointer (some ⟨qb, 0, none⟩) := by simpa using hq
  have hl := run_loadVar_row w pb 28 28 cs (0, 0) _ hP Tryd.underlying28 rfl (by rw [hs]; exact size_letter)
  have hc : w.cell? ⟨qb, 0, none⟩ = some y := hQ.cell 0
  have hl2 : (loadVar 37 ⟨qb, 0, none⟩).run Tryd.prog w = .ok y w := by simp [go_sem, hc]
  simp [results, Tryd.results18, h1, h2, asAddr, hl, hl2]

theorem dec_fail {b : List UInt8} {w W W' : World} {p : Nat} (hB : Below w.heap.size w W) (hD : DSt W W' w.heap.size (w.heap.size + 1) p zero14 (.iface 84 (.pointer (some ⟨W.heap.size, 0, none⟩)))) (hd : decF b = .error p) :
    DecPost b w (.returned (.tuple #[.agg zero14, .iface 84 (.pointer (some ⟨W.heap.size, 0, none⟩))])) W' := by
  have h1 := hB.size
  have h2 := hD.size
  refine ⟨⟨hD.os.trans hB.os, hD.tape.trans hB.tape, hD.output.trans hB.output, by omega, fun i hi => (hD.keep i (by omega) (by omega) (by omega)).trans (hB.block i hi)⟩, .inr ⟨p, W.heap.size, hd, rfl, h1, hD.fault⟩⟩

set_option maxHeartbeats 8000000 in
theorem dec_any (b : List UInt8) (A : Option Addr) (c : Nat) (w : World) (hr : Rd w A (bvs b)) (hl : b.length ≤ 1048576) :
    Calls Tryd.prog 18 #[.slice A b.length c] w (DecPost b w) := by
  have hmf : ∀ (fn : Fn) (first cap : Array Value) (w : World), (Instr.makeFunc fn first cap).run Tryd.prog w = .ok (.func fn first cap) w := fun _ _ _ _ => rfl
  have HR := Lib.hid hr
  clear hr
  go_enter_defers Tryd.func18, Tryd.ntmps18
  go_wp2_with (first
    | (go_at_call 53
       (with_reducible refine (clone_any b A c _ ((HR.out.alloc _).alloc _) (by omega)).mono ?_)
       rintro e w1 ⟨v1, rfl, hO1, hB1⟩
       obtain ⟨A1, c1, hv1, hc1, hm1⟩ := own_slice hO1
       have hlen : (bvs b).length = b.length := List.length_map _
       rw [hlen] at hv1 hc1
       subst hv1
       rw [alloc_size, alloc_size] at hO1
       have HO1 := Lib.hid hO1
       have HZ := Lib.hid (((Blk.new w 28 zero14).alloc (.cells #[.nilIface] 37)).keep hB1)
       have HE := Lib.hid ((Blk.new (w.alloc (.cells zero14 28)) 37 #[.nilIface]).keep hB1)
       have HB1 := Lib.hid ((((Below.refl w.heap.size w).alloc (Nat.le_refl _) _).alloc (by rw [alloc_size]; omega) _).trans (hB1.mono (by rw [alloc_size, alloc_size]; omega)))
       go_loud (have hA1 : ∀ ad, A1 = some ad → ad.block < w1.heap.size := fun ad e => (HO1.out.lt ad.block (by rw [e]; rfl)).2)
       go_loud (have HRd := Lib.hid (show Rdr (w1.alloc (.cells #[.slice A1 b.length c1, .int .i64 0] 88)) w1.heap.size b 0 A1 c1 from
         ⟨Blk.new _ _ _, (Rd.of_own (by have h := hO1; unfold OwnB at h; rw [hlen] at h; exact h)).alloc _, fun ad e h => by have := hA1 ad e; omega, hc1, by simp only [maxLen] at hm1; omega, Nat.zero_le _⟩))
       have hz1 := hB1.size
       go_loud (rw [alloc_size, alloc_size] at hz1)
       clear hO1 hB1 hlen)
    | (go_at_call 54
       refine (letter_any b 0 w1.heap.size A1 c1 _ HRd.out).mono ?_
       rintro e w2 ⟨hg2, ⟨m, a', x, hm, rfl, hR2, hF2⟩ | ⟨p, hm, rfl⟩⟩
       rotate_left
       · go_wp2_with fail
         have hw1 : w.heap.size + 2 ≤ w1.heap.size := by omega
         have hZ2 : Blk w2 w.heap.size 28 zero14 := (HZ.out.alloc _).grown hg2 (by intro e; injection e with e; omega)
         have hE2 : Blk w2 (w.heap.size + 1) 37 #[.nilIface] := by
           have := (HE.out.alloc (.cells #[.slice A1 b.length c1, .int .i64 0] 88)).grown hg2 (by rw [alloc_size]; intro e; injection e with e; omega)
           rw [alloc_size] at this; exact this
         refine leaves_cons (f := 52) (args := #[.pointer (some ⟨w.heap.size, 0, none⟩), .pointer (some ⟨w.heap.size + 1, 0, none⟩)]) (by simp) (by simp [go_sem]) ?_
         refine (defer_panics w.heap.size (w.heap.size + 1) p zero14 .nilIface w2 hZ2 rfl hE2 (by omega)).mono ?_
         rintro e u' w3 ⟨rfl, rfl, hD⟩
         simp only [Leaves, settle]
         refine ⟨_, results_dec _ _ _ _ _ _ rfl rfl hD.p rfl hD.q, ?_⟩
         have hs2 := hg2.size
         rw [alloc_size] at hs2
         refine ⟨⟨?_, ?_, ?_, ?_, ?_⟩, .inr ⟨p, w2.heap.size, ?_, rfl, by omega, hD.fault⟩⟩
         · exact hD.os.trans (hg2.os.trans HB1.out.os)
         · exact hD.tape.trans (hg2.tape.trans HB1.out.tape)
         · exact hD.output.trans (hg2.output.trans HB1.out.output)
         · rw [hD.size]; omega
         · intro i hi
           refine (hD.keep i (by omega) (by omega) (by omega)).trans ((hg2.block i (by rw [alloc_size]; omega) (by intro e; injection e with e; omega)).trans ((Below.heap_alloc w1 _ i (by omega)).trans (HB1.out.block i hi)))
         · unfold decF; rw [hm]
       have hw1 : w.heap.size + 2 ≤ w1.heap.size := by omega
       have hZ2 : Blk w2 w.heap.size 28 zero14 := (HZ.out.alloc _).grown hg2 (by intro e; injection e with e; omega)
       have hE2 : Blk w2 (w.heap.size + 1) 37 #[.nilIface] := by
         have := (HE.out.alloc (.cells #[.slice A1 b.length c1, .int .i64 0] 88)).grown hg2 (by rw [alloc_size]; intro e; injection e with e; omega)
         rw [alloc_size] at this; exact this
       have HZ2 := Lib.hid hZ2
       have HE2 := Lib.hid hE2
       have HG2 := Lib.hid hg2
       have HM := Lib.hid hm
       have HR2 := Lib.hid hR2
       have HF2 := Lib.hid hF2
       have HD := Lib.hid (show DFin w w2 w1.heap.size m x zero14 .nilIface from ⟨below_read HB1.out hg2, ⟨_, hR2.blk⟩, hZ2, hE2, hF2.weaken (by rw [alloc_size]; omega)⟩)
       have c2 := hZ2.cells
       have f2 := hZ2.frozen
       have cr := hR2.blk.cells
       have hnr : w1.heap.size ≠ w.heap.size := by omega
       have hat := hR2.hat
       unfold zero14 at c2
       unfold lcells
       clear hZ2 hE2 hg2 hm hR2 hF2)
    | (go_at_call 16
       have HD3 := Lib.hid (HD.out.set14 (.int .i64 m.kind) (.int .i64 m.from_) (.int .i64 m.to_) (.int .i64 m.term) (.int .i64 m.index) (.int .i64 m.logTerm) (.int .i64 m.commit) (.int .i64 m.round) (.bool m.ok) (.slice x.Ae m.ents.length x.ce) (.int .i64 m.snap.index) (.int .i64 m.snap.term) (.slice x.An m.snap.nodes.length x.cn) (.slice x.Ad m.snap.data.length x.cd))
       go_loud (refine (right_any m x _ HD3.out.f.rd).mono ?_)
       rintro e w3 ⟨rfl, hB3⟩
       have hp3 := HD3.out.p.keep hB3
       have hq3 := HD3.out.q.keep hB3
       have HP3 := Lib.hid hp3
       have HQ3 := Lib.hid hq3
       have HB3 := Lib.hid hB3
       have c3 := hp3.cells
       have f3 := hp3.frozen
       have cq := hq3.cells
       have fq := hq3.frozen
       have hne : w.heap.size ≠ w.heap.size + 1 := by omega
       clear hp3 hq3 hB3 c2 f2 cr))
  · have hD3 := HD.out.set14 (.int .i64 m.kind) (.int .i64 m.from_) (.int .i64 m.to_) (.int .i64 m.term) (.int .i64 m.index) (.int .i64 m.logTerm) (.int .i64 m.commit) (.int .i64 m.round) (.bool m.ok) (.slice x.Ae m.ents.length x.ce) (.int .i64 m.snap.index) (.int .i64 m.snap.term) (.slice x.An m.snap.nodes.length x.cn) (.slice x.Ad m.snap.data.length x.cd)
    refine leaves_cons (f := 52) (args := #[.pointer (some ⟨w.heap.size, 0, none⟩), .pointer (some ⟨w.heap.size + 1, 0, none⟩)]) (by simp) (by simp [go_sem]) ?_
    refine (defer_panics w.heap.size (w.heap.size + 1) a' _ .nilIface _ hD3.p rfl hD3.q (by omega)).mono ?_
    rintro e u' w4 ⟨rfl, rfl, hDD⟩
    simp only [Leaves, settle]
    exact ⟨_, results_dec _ _ _ _ _ _ rfl rfl hDD.p rfl hDD.q, dec_fail hD3.below hDD (by unfold decF; rw [HM.out]; simp only; rw [if_pos (by omega)])⟩
  · have hB := HD3.out.below.trans (HB3.out.mono HD3.out.below.size)
    refine leaves_cons (f := 52) (args := #[.pointer (some ⟨w.heap.size, 0, none⟩), .pointer (some ⟨w.heap.size + 1, 0, none⟩)]) (by simp) (by simp [go_sem]) ?_
    refine (defer_panics w.heap.size (w.heap.size + 1) 0 _ .nilIface _ HP3.out rfl HQ3.out (by omega)).mono ?_
    rintro e u' w4 ⟨rfl, rfl, hDD⟩
    simp only [Leaves, settle]
    refine ⟨_, results_dec _ _ _ _ _ _ rfl rfl hDD.p rfl hDD.q, dec_fail (p := 0) hB hDD ?_⟩
    unfold decF; rw [HM.out]; simp only; rw [if_neg (by omega)]; simp_all
  · obtain ⟨rs, hrs⟩ := HD3.out.r
    have hF : DFin w w3 w1.heap.size m x _ .nilIface := ⟨HD3.out.below.trans (HB3.out.mono HD3.out.below.size), ⟨rs, hrs.keep HB3.out⟩, HP3.out, HQ3.out, HD3.out.f.below HB3.out⟩
    have hF := hF.set14 (.int .i64 m.kind) (.int .i64 m.from_) (.int .i64 m.to_) (.int .i64 m.term) (.int .i64 m.index) (.int .i64 m.logTerm) (.int .i64 m.commit) (.int .i64 m.round) (.bool m.ok) (.slice x.Ae m.ents.length x.ce) (.int .i64 m.snap.index) (.int .i64 m.snap.term) (.slice x.An m.snap.nodes.length x.cn) (.slice x.Ad m.snap.data.length x.cd)
    have hF := hF.setq .nilIface
    refine leaves_cons (f := 52) (args := #[.pointer (some ⟨w.heap.size, 0, none⟩), .pointer (some ⟨w.heap.size + 1, 0, none⟩)]) (by simp) (by simp [go_sem]) ?_
    refine (defer_idle _ _ _).mono ?_
    rintro e u' w4 ⟨rfl, rfl, rfl⟩
    simp only [Leaves, settle]
    refine ⟨_, results_dec _ _ _ _ _ _ rfl rfl hF.p rfl hF.q, hF.below, .inl ⟨m, x, ?_, rfl, hF.f⟩⟩
    unfold decF; rw [HM.out]; simp only; rw [if_neg (by omega)]; simp_all
end Go.Proofs.YtmgandacmhkndaaDoor
