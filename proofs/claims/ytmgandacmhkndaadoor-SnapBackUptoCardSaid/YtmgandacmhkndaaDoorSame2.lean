/- ref16.SameEntry, SameEntries, SameSnap: their walks. Conditions: the lists read as such. -/
import Derived.Test.YtmgandacmhkndaaDoorSame
namespace Go.Proofs.YtmgandacmhkndaaDoor
open Go.RowKit
set_option maxRecDepth 100000
set_option linter.unusedSimpArgs false

theorem mk_toList (l : List UInt8) : (⟨l.toArray⟩ : ByteArray).toList = l := by rw [ByteArray.toList_eq]
theorem str_conv {w : World} (A : Option Addr) (c : Nat) (l : List UInt8) (hr : Rd w A (bvs l)) : (convert 24 9 (.slice A l.length c)).run Tryd.prog w = .ok (.string ⟨l.toArray⟩) w :=
  run_str_rd (P := Tryd.prog) w 24 9 5 Tryd.underlying24 Tryd.underlying5 Tryd.underlying9 A l.length c l rfl hr

set_option maxHeartbeats 4000000 in
theorem sameEntry_any (e e' : Ent) (Ad An Bd Bn : Option Addr) (cd cn dd dn : Nat) (w : World) (h : EntRd w e Ad An cd cn) (h' : EntRd w e' Bd Bn dd dn) :
    Calls Tryd.prog 71 #[.agg #[.int .i64 e.index, .int .i64 e.term, .int .i64 e.kind, .slice Ad e.data.length cd, .slice An e.nodes.length cn],
      .agg #[.int .i64 e'.index, .int .i64 e'.term, .int .i64 e'.kind, .slice Bd e'.data.length dd, .slice Bn e'.nodes.length dn]] w
      fun r w' => r = .returned (.bool (decide (e = e'))) ∧ Below w.heap.size w w' := by
  obtain ⟨i, t, k, d, n⟩ := e
  obtain ⟨i', t', k', d', n'⟩ := e'
  have HB := Lib.hid (two_below w (.cells #[.int .i64 i, .int .i64 t, .int .i64 k, .slice Ad d.length cd, .slice An n.length cn] 45) (.cells #[.int .i64 i', .int .i64 t', .int .i64 k', .slice Bd d'.length dd, .slice Bn n'.length dn] 45))
  have HC := Lib.hid (two_blk w 45 45 #[.int .i64 i, .int .i64 t, .int .i64 k, .slice Ad d.length cd, .slice An n.length cn] #[.int .i64 i', .int .i64 t', .int .i64 k', .slice Bd d'.length dd, .slice Bn n'.length dn])
  have HE := Lib.hid h
  have HE' := Lib.hid h'
  clear h h'
  go_enter Tryd.func71, Tryd.ntmps71
  go_wp2_with fail
  refine (sameNodes_any An Bn cn dn n n' _ (HE.out.nodes.below HB.out) (HE'.out.nodes.below HB.out) HE.out.nl).mono ?_
  rintro r w1 ⟨rfl, hB1⟩
  have c1 := (HC.out.1.keep hB1).cells
  have c2 := (HC.out.2.keep hB1).cells
  have hw := below_then HB.out HB.out.size hB1
  have v1 := str_conv Ad cd d (HE.out.data.below hw)
  have v2 := str_conv Bd dd d' (HE'.out.data.below hw)
  have HW := Lib.hid hw
  clear hB1 hw HB HC HE HE'
  generalize hb : decide (n = n') = bn
  have HBN := Lib.hid hb
  clear hb
  go_wp2_with fail
  all_goals
    go_ret
    refine ⟨ret_b ?_, HW.out⟩
    have hb := HBN.out
    clear HBN HW c1 c2 v1 v2
    go_light
    try rw [← hb]
    simp [*]

set_option maxHeartbeats 4000000 in
theorem sameEntries_any (A B : Option Addr) (ca cb : Nat) (l l' : List Ent) (w : World) (hr : REnts w A l) (hr' : REnts w B l') (hl : l.length ≤ 140737488355328) :
    Calls Tryd.prog 55 #[.slice A l.length ca, .slice B l'.length cb] w fun e w' => e = .returned (.bool (decide (l = l'))) ∧ Below w.heap.size w w' := by
  by_cases hlen : l.length = l'.length
  · have e1 : ((l.length : Int) != (l'.length : Int)) = false := by simp [hlen]
    have HR := Lib.hid hr
    have HR' := Lib.hid hr'
    have HLEN := Lib.hid hlen
    clear hr hr' hlen
    go_enter Tryd.func55, Tryd.ntmps55
    go_wp2_with fail
    go_loopg [5, 6] l.length (fun d i s6 wr => ∃ k : Nat, k ≤ l.length ∧ d + k = l.length ∧ i = .int .i64 k ∧ Below w.heap.size w wr ∧ Hid (l.take k = l'.take k))
    case atStart => exact ⟨0, Nat.zero_le _, rfl, rfl, Below.refl _ _, rfl⟩
    case round =>
      obtain ⟨k, hk, hd, rfl, hB, HT⟩ := hrel
      have HD := Lib.hid hd
      have HB := Lib.hid hB
      clear hd hB
      by_cases hlt : k < l.length
      · have hlt' : k < l'.length := by have := HLEN.out; omega
        obtain ⟨ad, Ad, An, cd, cn, rfl, hE, hC⟩ := HR.out.at_ hlt
        obtain ⟨bd, Bd, Bn, dd, dn, rfl, hE', hC'⟩ := HR'.out.at_ hlt'
        generalize hx : l[k] = e at hE hC
        generalize hy : l'[k] = e' at hE' hC'
        have HX := Lib.hid hx
        have HY := Lib.hid hy
        have hkp : ∀ a v, w.cell? a = some v → wr.cell? a = some v := fun a v hc => cell_keep HB.out hc
        obtain ⟨q0, q1, q2, q3, q4⟩ := hC.keep hkp
        obtain ⟨p0, p1, p2, p3, p4⟩ := hC'.keep hkp
        have b0 : (0 : Int) ≤ (k : Int) := Int.natCast_nonneg _
        have b1 : (k : Int) < (l.length : Int) := by omega
        have b2 : (k : Int) < (l'.length : Int) := by omega
        have HK := Lib.hid (fun W (hW : Below w.heap.size w W) => sameEntry_any e e' Ad An Bd Bn cd cn dd dn W (hE.keep fun a v hc => cell_keep hW hc) (hE'.keep fun a v hc => cell_keep hW hc))
        clear hE hE' hC hC' hkp hx hy
        go_wp2_with fail
        go_region_held3 (fun w' => w'.cell? (ad.add (k * 5)) = some (.int .i64 e.index) ∧ w'.cell? ⟨(ad.add (k * 5)).block, (ad.add (k * 5)).off + 1, none⟩ = some (.int .i64 e.term) ∧ w'.cell? ⟨(ad.add (k * 5)).block, (ad.add (k * 5)).off + 2, none⟩ = some (.int .i64 e.kind) ∧ w'.cell? ⟨(ad.add (k * 5)).block, (ad.add (k * 5)).off + 3, none⟩ = some (.slice Ad e.data.length cd) ∧ w'.cell? ⟨(ad.add (k * 5)).block, (ad.add (k * 5)).off + 4, none⟩ = some (.slice An e.nodes.length cn) ∧
            w'.cell? (bd.add (k * 5)) = some (.int .i64 e'.index) ∧ w'.cell? ⟨(bd.add (k * 5)).block, (bd.add (k * 5)).off + 1, none⟩ = some (.int .i64 e'.term) ∧ w'.cell? ⟨(bd.add (k * 5)).block, (bd.add (k * 5)).off + 2, none⟩ = some (.int .i64 e'.kind) ∧ w'.cell? ⟨(bd.add (k * 5)).block, (bd.add (k * 5)).off + 3, none⟩ = some (.slice Bd e'.data.length dd) ∧ w'.cell? ⟨(bd.add (k * 5)).block, (bd.add (k * 5)).off + 4, none⟩ = some (.slice Bn e'.nodes.length dn)) (first | go_keep | (refine ⟨?_, ?_, ?_, ?_, ?_, ?_, ?_, ?_, ?_, ?_⟩ <;> (refine cell_keep hB1 ?_; assumption)))
          (first | (go_at_call 71; refine (HK.out _ (HB.out.drew)).mono ?_; rintro r w1 ⟨rfl, hB1⟩))
        have HB1 := Lib.hid (below_then HB.out HB.out.size (show Below wr.heap.size wr w1 from ⟨hB1.os, hB1.tape, hB1.output, hB1.size, hB1.block⟩))
        clear hB1
        obtain ⟨bq, hbq⟩ : ∃ bq, bq = decide (e = e') := ⟨_, rfl⟩
        rw [← hbq]
        have HQ := Lib.hid hbq
        clear hbq p0 p1 p2 p3 p4 q0 q1 q2 q3 q4
        cases bq
        · go_wp2_with fail
          go_ret
          refine ⟨ret_b (decide_eq_false (ne_at hlt hlt' ?_)).symm, HB1.out⟩
          rw [HX.out, HY.out]
          exact of_decide_eq_false HQ.out.symm
        · go_wp2_with fail
          go_roundg (l.length - (k + 1))
          case measure => have := HD.out; omega
          case rel =>
            refine ⟨k + 1, by omega, by omega, by go_num, HB1.out, take_same hlt hlt' HT.out ?_⟩
            rw [HX.out, HY.out]
            exact of_decide_eq_true HQ.out.symm
      · go_wp2_with fail
        go_ret
        refine ⟨ret_b ?_, HB.out⟩
        have h := HT.out
        have := HLEN.out
        rw [List.take_of_length_le (by omega), List.take_of_length_le (by omega)] at h
        simp [h]
  · have e1 : ((l.length : Int) != (l'.length : Int)) = true := by simp; omega
    have HLEN := Lib.hid hlen
    clear hlen hr hr'
    go_enter Tryd.func55, Tryd.ntmps55
    go_wp2_with fail
    go_ret
    exact ⟨ret_b (decide_eq_false (fun e => HLEN.out (by rw [e]))).symm, Below.refl _ _⟩

set_option maxHeartbeats 4000000 in
theorem sameSnap_any (e e' : Snp) (An Ad Bn Bd : Option Addr) (cn cd dn dd : Nat) (w : World) (hn : Rd w An (ivs e.nodes)) (hd : Rd w Ad (bvs e.data)) (hn' : Rd w Bn (ivs e'.nodes)) (hd' : Rd w Bd (bvs e'.data)) (hl : e.nodes.length ≤ 140737488355328) :
    Calls Tryd.prog 56 #[.agg #[.int .i64 e.index, .int .i64 e.term, .slice An e.nodes.length cn, .slice Ad e.data.length cd],
      .agg #[.int .i64 e'.index, .int .i64 e'.term, .slice Bn e'.nodes.length dn, .slice Bd e'.data.length dd]] w
      fun r w' => r = .returned (.bool (decide (e = e'))) ∧ Below w.heap.size w w' := by
  obtain ⟨i, t, n, d⟩ := e
  obtain ⟨i', t', n', d'⟩ := e'
  have HB := Lib.hid (two_below w (.cells #[.int .i64 i, .int .i64 t, .slice An n.length cn, .slice Ad d.length cd] 26) (.cells #[.int .i64 i', .int .i64 t', .slice Bn n'.length dn, .slice Bd d'.length dd] 26))
  have HC := Lib.hid (two_blk w 26 26 #[.int .i64 i, .int .i64 t, .slice An n.length cn, .slice Ad d.length cd] #[.int .i64 i', .int .i64 t', .slice Bn n'.length dn, .slice Bd d'.length dd])
  have HE := Lib.hid (And.intro hn (And.intro hd (And.intro hn' hd')))
  clear hn hd hn' hd'
  go_enter Tryd.func56, Tryd.ntmps56
  go_wp2_with fail
  refine (sameNodes_any An Bn cn dn n n' _ (HE.out.1.below HB.out) (HE.out.2.2.1.below HB.out) hl).mono ?_
  rintro r w1 ⟨rfl, hB1⟩
  have c1 := (HC.out.1.keep hB1).cells
  have c2 := (HC.out.2.keep hB1).cells
  have hw := below_then HB.out HB.out.size hB1
  have v1 := str_conv Ad cd d (HE.out.2.1.below hw)
  have v2 := str_conv Bd dd d' (HE.out.2.2.2.below hw)
  have HW := Lib.hid hw
  clear hB1 hw HB HC HE
  generalize hb : decide (n = n') = bn
  have HBN := Lib.hid hb
  clear hb
  cases bn
  all_goals
    go_wp2_with fail
    all_goals
      go_ret
      refine ⟨ret_b ?_, HW.out⟩
      have hb := HBN.out
      clear HBN HW c1 c2 v1 v2
      go_light
      simp at hb
      simp [*] <;> grind
end Go.Proofs.YtmgandacmhkndaaDoor
