/- wire.Encode of the kinds LInstall and LAppend: its walk. Conditions: the letter's lists read as such. -/
import Derived.Test.YtmgandacmhkndaaDoorEnc1
namespace Go.Proofs.YtmgandacmhkndaaDoor
open Go.RowKit
set_option maxRecDepth 100000
set_option linter.unusedSimpArgs false

theorem grpFrom_all (l : List Int) : ∀ p, 0 ≤ p → p ≤ 5 → grpFrom p l = true → (l.length : Int) + p ≤ 5 ∧ ∀ z ∈ l, 1 ≤ z ∧ z ≤ 5 := by
  induction l with
  | nil => intro p h0 h5 _; exact ⟨by simpa using h5, by simp⟩
  | cons x r ih =>
    intro p h0 h5 h
    simp only [grpFrom, Bool.and_eq_true, decide_eq_true_eq] at h
    obtain ⟨⟨h1, h2, h3⟩, h4⟩ := h
    obtain ⟨h6, h7⟩ := ih x (by omega) (by omega) h4
    refine ⟨by simp only [List.length_cons]; omega, ?_⟩
    intro z hz
    rcases List.mem_cons.1 hz with rfl | hz
    · exact ⟨h1, h2⟩
    · exact h7 z hz
theorem grp_all {l : List Int} (h : grp l = true) : 0 < l.length ∧ l.length ≤ 5 ∧ ∀ z ∈ l, 1 ≤ z ∧ z ≤ 5 := by
  unfold grp at h
  simp only [Bool.and_eq_true, Bool.not_eq_true', List.isEmpty_eq_false_iff] at h
  obtain ⟨h1, h2⟩ := grpFrom_all l 0 (by omega) (by omega) h.1
  exact ⟨List.length_pos_iff.2 h.2, by omega, h2⟩
theorem right_snap {m : Let} (h : rightB m = true) (hk : m.kind = 5) : 1 ≤ m.snap.index ∧ m.snap.index ≤ 999998 ∧ 0 ≤ m.snap.term ∧ m.snap.term ≤ 999999 ∧ grp m.snap.nodes = true ∧ m.snap.data.length ≤ 300000 := by
  have hn := right_nums h
  unfold rightB rightK at h
  rw [if_neg (by omega), if_neg (by omega), if_neg (by omega), if_neg (by omega), if_pos hk] at h
  simp only [Bool.and_eq_true, btw_true, decide_eq_true_eq] at h
  have := hn.m1
  obtain ⟨_, ⟨_, ⟨⟨⟨h1, h2⟩, h3⟩, h4⟩⟩, _⟩ := h
  exact ⟨h1.1, h1.2, h2.1, by omega, h3, h4⟩

set_option maxHeartbeats 4000000 in
theorem enc_k5 (m : Let) (x : LMem) (w : World) (h : LetRd w m x) (hR : rightB m = true) (hk : m.kind = 5) :
    Calls Tryd.prog 15 #[.agg (lcells m x)] w (EncPost m w) := by
  have HC := Lib.hid (right_any m x (w.alloc (.cells (lcells m x) 28)) (h.below ((Below.refl _ _).alloc (Nat.le_refl _) _)))
  rw [hR] at HC
  have HR := Lib.hid hR
  have HN := Lib.hid (right_nums hR)
  have HK := Lib.hid hk
  have e1 : (m.kind == 1) = false := by simp [hk]
  have e2 : (m.kind == 2) = false := by simp [hk]
  have e4 : (m.kind == 4) = false := by simp [hk]
  have e5 : (m.kind == 5) = true := by simpa using hk
  have HS := Lib.hid (fun W (h : Below (w.alloc (.cells (lcells m x) 28)).heap.size (w.alloc (.cells (lcells m x) 28)) W) =>
    ESt.start (((Below.refl w.heap.size w).alloc (Nat.le_refl _) (.cells (lcells m x) 28)).trans (h.mono (by simp))) ((Blk.new w 28 (lcells m x)).keep h) (by decide))
  have HL := Lib.hid h
  unfold lcells
  unfold lcells at HC HS
  clear h hR hk
  go_enter Tryd.func15, Tryd.ntmps15
  go_wp2_with fail
  refine HC.out.mono ?_
  rintro e w1 ⟨rfl, hB1⟩
  have HE := HS.out w1 hB1
  have c1 := HE.cells
  have HE1 := Lib.hid HE
  clear HE hB1
  go_wp2_with fail
  refine (enc_head m HN.out HE1.out (Blk.new _ _ _)).mono ?_
  rintro e w2 ⟨v2, rfl, HE2, hk2⟩
  have c2 := HE2.cells
  have HE2a := Lib.hid HE2
  clear HE2 c1
  obtain ⟨si0, si1, st0, st1, hgr, hdl⟩ := right_snap HR.out HK.out
  obtain ⟨hn0, hn5, hall⟩ := grp_all hgr
  have HG : Hid (∀ z : Int, z ∈ m.snap.nodes → 0 ≤ z ∧ z ≤ 9223372036854775807) := fun z hz => by have := hall z hz; omega
  clear hall hgr
  go_wp2_with fail
  have q10 : w2.cell? ⟨w.heap.size, 10, none⟩ = some (.int .i64 m.snap.index) := c2 10
  have q11 : w2.cell? ⟨w.heap.size, 11, none⟩ = some (.int .i64 m.snap.term) := c2 11
  have q12 : w2.cell? ⟨w.heap.size, 12, none⟩ = some (.slice x.An m.snap.nodes.length x.cn) := c2 12
  have hlt := HE2a.out.box.lt
  have HZ : Hid (∀ z ∈ [m.snap.index, m.snap.term, (m.snap.nodes.length : Int)], 0 ≤ z ∧ z ≤ 9223372036854775807) := by
    intro z hz
    simp only [List.mem_cons, List.not_mem_nil, or_false] at hz
    omega
  clear c2
  go_region_held3 (fun w' => w'.cell? ⟨w.heap.size, 10, none⟩ = some (.int .i64 m.snap.index) ∧ w'.cell? ⟨w.heap.size, 11, none⟩ = some (.int .i64 m.snap.term) ∧ w'.cell? ⟨w.heap.size, 12, none⟩ = some (.slice x.An m.snap.nodes.length x.cn)) (first | go_keep)
    (first
      | (go_at_call 41; refine (numbers_arg HE3a.out x.An m.snap.nodes.length x.cn m.snap.nodes rfl HL.out.nodes hn0 HG.out (by simp; omega)).mono ?_; rintro e w4 ⟨v4, rfl, HE4, hk4⟩; have c4 := HE4.cells; have HE4a := Lib.hid HE4; clear HE4 c3)
      | (go_at_call 41; refine (numbers_blk (HE2a.out.alloc _).drew w2.heap.size 3 3 [m.snap.index, m.snap.term, (m.snap.nodes.length : Int)] rfl (Blk.new _ _ _).drew HZ.out (by simp)).mono ?_; rintro e w3 ⟨v3, rfl, HE3, hk3⟩; have c3 := HE3.cells; have HE3a := Lib.hid HE3; clear HE3))
  obtain ⟨B4, hB4⟩ : ∃ B, B = encHead m ++ vrs (List.map Int.toNat [m.snap.index, m.snap.term, (m.snap.nodes.length : Int)]) ++ vrs (List.map Int.toNat m.snap.nodes) := ⟨_, rfl⟩
  have HE4 := HE4a.out.mono (N' := 120) (by simp; omega)
  rw [← hB4] at HE4
  have HB4 := Lib.hid hB4
  have HE4b := Lib.hid HE4
  clear HE4 hB4
  clear HE3a HE4a
  go_wp2_with fail
  have p7 : w4.cell? ⟨w.heap.size, 7, none⟩ = some (.int .i64 m.round) := c4 7
  have p13 : w4.cell? ⟨w.heap.size, 13, none⟩ = some (.slice x.Ad m.snap.data.length x.cd) := c4 13
  have hlt4 := HE4b.out.box.lt
  have HZ2 : Hid (∀ z ∈ [(m.snap.data.length : Int)], 0 ≤ z ∧ z ≤ 9223372036854775807) := by
    intro z hz
    simp only [List.mem_cons, List.not_mem_nil, or_false] at hz
    omega
  have HZ3 : Hid (∀ z ∈ [m.round], 0 ≤ z ∧ z ≤ 9223372036854775807) := by
    have h1 := HN.out.r0; have h2 := HN.out.r1
    intro z hz
    simp only [List.mem_cons, List.not_mem_nil, or_false] at hz
    omega
  have HDL : Hid (m.snap.data.length ≤ 300000) := hdl
  clear c4 hdl
  go_region_held3 (fun w' => w'.cell? ⟨w.heap.size, 7, none⟩ = some (.int .i64 m.round) ∧ w'.cell? ⟨w.heap.size, 13, none⟩ = some (.slice x.Ad m.snap.data.length x.cd)) (first | go_keep)
    (first
      | (go_at_call 41
         have tok := HE6a
         refine (numbers_blk (by first | exact HE6a.out.alloc _ | exact HE6a.out) _ 1 1 [m.round] rfl (by first | exact Blk.new _ _ _ | exact HK6.out _ _ (Blk.new _ _ _) | exact HK6.out _ _ (HK5.out _ _ (Blk.new1 _ _ _ _).drew) | exact HK6.out _ _ (HK5.out _ _ ((Blk.new _ _ _).alloc _).drew)) HZ3.out (by simp)).mono ?_
         rintro e w7 ⟨v7, rfl, HE7, hk7⟩
         have c7 := HE7.cells
         have HE7a := Lib.hid HE7
         clear HE7 c6 hk7)
      | (have tok := HE5a
         refine step_append_rd _ (by rfl) (.tmp 76) (.tmp 79) 24 (by rfl) w.heap.size 5 _ 1 Tryd.underlying24 info_u8 rfl v5 (bvs B5) x.Ad m.snap.data.length x.cd (bvs m.snap.data) (by rfl) (by rfl) (by simp) (by first | exact HE5a.out.own | exact (HE5a.out.alloc _).own) (by first | exact HE5a.out.rd HL.out.data | exact (HE5a.out.alloc _).rd HL.out.data) (one_bv _) (by have := HE5a.out.len; have := HDL.out; simp only [maxLen, List.length_map]; omega) (by have := HE5a.out.len; have := HDL.out; simp only [List.length_map]; omega) (by first | exact HE5a.out.below.size | exact (HE5a.out.alloc _).below.size) ?_
         intro v6 w6 happ
         first
           | (have hk6 := HE5a.out.keepInt happ.grown; have HE6 := HE5a.out.appB happ (N' := 300200) (by have := HDL.out; omega); have HK6 := Lib.hid hk6)
           | (have hk6 := (HE5a.out.alloc _).keepInt happ.grown; have HE6 := (HE5a.out.alloc _).appB happ (N' := 300200) (by have := HDL.out; omega); have HK6 := Lib.hid hk6)
         have c6 := HE6.cells
         have HE6a := Lib.hid HE6
         clear HE6 happ c5 hk6)
      | (go_at_call 41
         refine (numbers_blk (by first | exact (HE4b.out.alloc _).drew | exact ((HE4b.out.alloc _).alloc _).drew) _ 1 1 [(m.snap.data.length : Int)] rfl (by first | exact (Blk.new _ _ _).drew | exact (Blk.new1 _ _ _ _).drew | exact ((Blk.new _ _ _).alloc _).drew) HZ2.out (by simp)).mono ?_
         rintro e w5 ⟨v5, rfl, HE5, hk5⟩
         have c5 := HE5.cells
         obtain ⟨B5, hB5⟩ : ∃ B, B = B4 ++ vrs (List.map Int.toNat [(m.snap.data.length : Int)]) := ⟨_, rfl⟩
         rw [← hB5] at HE5
         have HB5 := Lib.hid hB5
         have HE5a := Lib.hid (HE5.mono (N' := 130) (by simp))
         have HK5 := Lib.hid hk5
         clear HE5 hk5 hB5))
  all_goals
    go_wp2_with fail
    go_ret2
    exact EncPost.yes HR.out HE7a.out (by rw [HB5.out, HB4.out]; unfold encF encBody; rw [if_neg (by rw [HK.out]; decide), if_neg (by rw [HK.out]; decide), if_neg (by rw [HK.out]; decide), if_pos HK.out]; simp [List.append_assoc])
end Go.Proofs.YtmgandacmhkndaaDoor
