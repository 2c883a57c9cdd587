/- law17.WireBounds: its walk. Condition: errors.errorType holds the handle of the type error. -/
import Derived.Test.YtmgandacmhkndaaDoorShown
namespace Go.Proofs.YtmgandacmhkndaaDoor
open Go.RowKit
set_option maxRecDepth 100000
set_option linter.unusedSimpArgs false

theorem vrs_le (ns : List Nat) (h : ∀ n ∈ ns, n ≤ 1073741824) : (vrs ns).length ≤ 10 * ns.length := vrs_len ns fun n hn => by have := h n hn; omega
theorem encEnt_le {e : Ent} (h : entOk e = true) : (encEnt e).length ≤ 8100 := by
  obtain ⟨⟨h0, h1, h2, h3, h4⟩, hg⟩ := ent_nums h
  have v1 := vrs_le [e.term.toNat, e.kind.toNat] (by intro n hn; simp only [List.mem_cons, List.not_mem_nil, or_false] at hn; omega)
  unfold encEnt
  rw [List.length_append]
  simp only [List.length_cons, List.length_nil] at v1
  split
  · have v2 := vrs_le [e.data.length] (by intro n hn; simp only [List.mem_cons, List.not_mem_nil, or_false] at hn; omega)
    simp only [List.length_cons, List.length_nil] at v2
    rw [List.length_append]; omega
  · split
    · rename_i k2
      obtain ⟨_, g5, gz⟩ := grp_all (hg k2)
      have v2 := vrs_le [e.nodes.length] (by intro n hn; simp only [List.mem_cons, List.not_mem_nil, or_false] at hn; omega)
      have v3 := vrs_le (e.nodes.map Int.toNat) (by intro n hn; obtain ⟨z, hz, rfl⟩ := List.mem_map.1 hn; have := gz z hz; omega)
      simp only [List.length_cons, List.length_nil, List.length_map] at v2 v3
      rw [List.length_append]; omega
    · simp; omega
theorem flat_le (l : List Ent) (h : ∀ e ∈ l, entOk e = true) : (l.flatMap encEnt).length ≤ 8100 * l.length := by
  induction l with
  | nil => simp
  | cons e r ih =>
    have h1 := encEnt_le (h e (List.mem_cons_self ..))
    have h2 := ih fun x hx => h x (List.mem_cons_of_mem _ hx)
    rw [List.flatMap_cons, List.length_append, List.length_cons]; omega
theorem encF_le {m : Let} (h : rightB m = true) : (encF m).length ≤ 400000 := by
  have hk := right_kind h
  obtain ⟨n1, n2, n3, n4, n5, n6, n7, n8, n9, n10, n11, n12, n13, n14, n15, n16⟩ := right_nums h
  have v1 := vrs_le [m.kind.toNat, m.from_.toNat, m.to_.toNat, m.term.toNat] (by intro n hn; simp only [List.mem_cons, List.not_mem_nil, or_false] at hn; omega)
  simp only [List.length_cons, List.length_nil] at v1
  unfold encF encHead encBody
  rw [List.length_append]
  have hb : ∀ b, bit1 b ≤ 1 := fun b => by unfold bit1; split <;> omega
  split
  · have v2 := vrs_le [m.index.toNat, m.logTerm.toNat] (by intro n hn; simp only [List.mem_cons, List.not_mem_nil, or_false] at hn; omega)
    simp only [List.length_cons, List.length_nil] at v2; omega
  · split
    · have := hb m.ok
      have v2 := vrs_le [bit1 m.ok] (by intro n hn; simp only [List.mem_cons, List.not_mem_nil, or_false] at hn; omega)
      simp only [List.length_cons, List.length_nil] at v2; omega
    · split
      · have := hb m.ok
        have v2 := vrs_le [bit1 m.ok, m.index.toNat, m.round.toNat] (by intro n hn; simp only [List.mem_cons, List.not_mem_nil, or_false] at hn; omega)
        simp only [List.length_cons, List.length_nil] at v2; omega
      · split
        · rename_i k5
          obtain ⟨s0, s1, t0, t1, hg, hd⟩ := right_snap h k5
          obtain ⟨_, g5, gz⟩ := grp_all hg
          have v2 := vrs_le [m.snap.index.toNat, m.snap.term.toNat, m.snap.nodes.length] (by intro n hn; simp only [List.mem_cons, List.not_mem_nil, or_false] at hn; omega)
          have v3 := vrs_le (m.snap.nodes.map Int.toNat) (by intro n hn; obtain ⟨z, hz, rfl⟩ := List.mem_map.1 hn; have := gz z hz; omega)
          have v4 := vrs_le [m.snap.data.length] (by intro n hn; simp only [List.mem_cons, List.not_mem_nil, or_false] at hn; omega)
          have v5 := vrs_le [m.round.toNat] (by intro n hn; simp only [List.mem_cons, List.not_mem_nil, or_false] at hn; omega)
          simp only [List.length_cons, List.length_nil, List.length_map] at v2 v3 v4 v5
          simp only [List.length_append]; omega
        · have k3 : m.kind = 3 := by omega
          obtain ⟨e4, ea⟩ := right_ents h k3
          have v2 := vrs_le [m.index.toNat, m.logTerm.toNat, m.commit.toNat, m.round.toNat, m.ents.length] (by intro n hn; simp only [List.mem_cons, List.not_mem_nil, or_false] at hn; omega)
          have v3 := flat_le m.ents ea
          simp only [List.length_cons, List.length_nil] at v2
          simp only [List.length_append]; omega

def mb (f t tm i r : Int) (ok : Bool) : Let := ⟨4, f, t, tm, i, 0, 0, r, ok, [], ⟨0, 0, [], []⟩⟩
theorem mb_rd (f t tm i r : Int) (ok : Bool) (w : World) : LetRd w (mb f t tm i r ok) None3 := ⟨.inl rfl, .inl rfl, .inl rfl, by simp [mb], by simp [mb], by simp [mb], by simp [mb], by simp [mb], by simp [mb]⟩

set_option maxHeartbeats 4000000 in
theorem bounds_any (f t tm i r : Int) (ok : Bool) (w : World) (hg : ErrT w) :
    Calls Tryd.prog 6 #[.int .i64 f, .int .i64 t, .int .i64 tm, .int .i64 i, .int .i64 r, .bool ok] w fun e w' => e = .returned (.bool true) ∧ Below w.heap.size w w' := by
  have HG := Lib.hid hg
  clear hg
  go_enter Tryd.func6, Tryd.ntmps6
  go_wp2_with fail
  refine (shown_any w HG.out).mono ?_
  rintro e w1 ⟨rfl, hB1⟩
  have HB1 := Lib.hid hB1
  clear hB1
  go_upto_region 3 with fail
  go_cut [15] (fun s wx => s = .bool (rightB (mb f t tm i r ok)) ∧ wx = w1.alloc (.cells (lcells (mb f t tm i r ok) None3) 28))
  case first =>
    rcases hft : (f != t) with _ | _
    all_goals
      go_wp2_with fail
      all_goals
        go_meet
        refine ⟨?_, rfl⟩
        congr 1
        go_light
        simp only [bne_iff_ne, ne_eq, bne_eq_false_iff_eq] at hft
        unfold rightB rightK hdrOk numOk btw mb noSnap
        simp
        try omega
        try grind
  case rest =>
    obtain ⟨rfl, rfl⟩ := hcut
    have HM := Lib.hid (Blk.new w1 28 (lcells (mb f t tm i r ok) None3))
    have HE := Lib.hid (enc_any (mb f t tm i r ok) None3 (w1.alloc (.cells (lcells (mb f t tm i r ok) None3) 28)) (mb_rd _ _ _ _ _ _ _))
    cases hR : rightB (mb f t tm i r ok)
    · have HRR := Lib.hid hR
      clear hR
      unfold lcells mb None3
      go_wp2_with fail
      refine HE.out.mono ?_
      rintro e w2 ⟨hB2, hp⟩
      rw [HRR.out] at hp
      simp only [Bool.false_eq_true, if_false] at hp
      obtain rfl := hp
      have HM2 := Lib.hid (HM.out.keep hB2)
      have c2 := (HM.out.keep hB2).cells
      unfold lcells mb None3 at c2
      have HW2 := Lib.hid (HB1.out.trans (((Below.refl w1.heap.size w1).alloc (Nat.le_refl _) (.cells (lcells (mb f t tm i r ok) None3) 28)).trans (hB2.mono (by simp))|>.mono HB1.out.size))
      clear hB2
      go_wp2_with fail
      refine (right_any (mb f t tm i r ok) None3 w2 (mb_rd _ _ _ _ _ _ _)).mono ?_
      rw [HRR.out]
      rintro e w3 ⟨rfl, hB3⟩
      have HW3 := Lib.hid (HW2.out.trans (hB3.mono HW2.out.size))
      clear hB3
      go_wp2_with fail
      go_ret
      exact ⟨rfl, HW3.out⟩
    · have HRR := Lib.hid hR
      clear hR
      unfold lcells mb None3
      go_wp2_with fail
      refine HE.out.mono ?_
      rintro e w2 ⟨hB2, hp⟩
      rw [if_pos HRR.out] at hp
      obtain ⟨v2, rfl, hO2⟩ := hp
      obtain ⟨A2, k2, rfl, _, _⟩ := own_slice hO2
      have HO2 := Lib.hid (Rd.of_own hO2)
      have HM2 := Lib.hid (HM.out.keep hB2)
      have HW2 := Lib.hid (HB1.out.trans (((Below.refl w1.heap.size w1).alloc (Nat.le_refl _) (.cells (lcells (mb f t tm i r ok) None3) 28)).trans (hB2.mono (by simp))|>.mono HB1.out.size))
      clear hB2 hO2
      go_wp2_with fail
      refine (dec_any (encF (mb f t tm i r ok)) A2 k2 w2 HO2.out (by have := encF_le HRR.out; omega)).mono ?_
      rintro e w3 ⟨hB3, h3⟩
      rw [dec_enc HRR.out] at h3
      obtain ⟨m', x', h, rfl, hF3⟩ | ⟨p, fb, h, _⟩ := h3
      rotate_left
      · cases h
      injection h with h
      subst h
      have HM3 := Lib.hid (HM2.out.keep hB3)
      have HX3 := Lib.hid (Blk.new w3 28 (lcells (mb f t tm i r ok) x'))
      have c3 := fun o : Obj => (HM3.out.alloc o).cells
      have c4 := HX3.out.cells
      unfold lcells mb None3 at c3
      unfold lcells mb at c4
      have HW3 := Lib.hid (HW2.out.trans (hB3.mono HW2.out.size))
      have HF3 := Lib.hid hF3.rd
      clear hB3 hF3
      unfold lcells mb
      go_wp2_with fail
      refine (same17_any (mb f t tm i r ok) (mb f t tm i r ok) x' None3 _ (HF3.out.below ((Below.refl _ _).alloc (Nat.le_refl _) _)) (mb_rd _ _ _ _ _ _ _)).mono ?_
      rw [decide_eq_true rfl]
      rintro e w4 ⟨rfl, hB4⟩
      have c5 := ((HM3.out.alloc _).keep hB4).cells
      unfold lcells mb None3 at c5
      have HW4 := Lib.hid (HW3.out.trans (((Below.refl w3.heap.size w3).alloc (Nat.le_refl _) (.cells (lcells (mb f t tm i r ok) x') 28)).trans (hB4.mono (by simp))|>.mono HW3.out.size))
      clear hB4 c3 c4
      go_wp2_with fail
      refine (right_any (mb f t tm i r ok) None3 w4 (mb_rd _ _ _ _ _ _ _)).mono ?_
      rw [HRR.out]
      rintro e w5 ⟨rfl, hB5⟩
      have HW5 := Lib.hid (HW4.out.trans (hB5.mono HW4.out.size))
      clear hB5
      go_wp2_with fail
      go_ret
      exact ⟨rfl, HW5.out⟩
end Go.Proofs.YtmgandacmhkndaaDoor
