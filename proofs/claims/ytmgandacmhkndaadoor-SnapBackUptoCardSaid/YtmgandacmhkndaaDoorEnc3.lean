/- wire.Encode of the kind LAppend, and of every letter: its walk. Conditions: the letter's lists read as such. -/
import Derived.Test.YtmgandacmhkndaaDoorEnc2
import Derived.Deep.Light
namespace Go.Proofs.YtmgandacmhkndaaDoor
open Go.RowKit
set_option maxRecDepth 100000
set_option linter.unusedSimpArgs false

theorem entsFrom_all (l : List Ent) : ∀ top i t, entsFrom top i t l = true → ∀ e ∈ l, entOk e = true := by
  induction l with
  | nil => intro _ _ _ _ e he; simp at he
  | cons x r ih =>
    intro top i t h e he
    simp only [entsFrom, Bool.and_eq_true] at h
    rcases List.mem_cons.1 he with rfl | he
    · exact h.1.1.1
    · exact ih _ _ _ h.2 e he
theorem right_ents {m : Let} (h : rightB m = true) (hk : m.kind = 3) : m.ents.length ≤ 4 ∧ ∀ e ∈ m.ents, entOk e = true := by
  unfold rightB rightK at h
  rw [if_neg (by omega), if_neg (by omega), if_pos hk] at h
  simp only [Bool.and_eq_true, decide_eq_true_eq] at h
  obtain ⟨_, ⟨⟨h1, h2⟩, _⟩, _⟩ := h
  exact ⟨h2, entsFrom_all _ _ _ _ h1⟩
structure EntNums (e : Ent) : Prop where
  t0 : 0 ≤ e.term
  t1 : e.term ≤ 999999
  k0 : 0 ≤ e.kind
  k2 : e.kind ≤ 2
  dl : e.data.length ≤ 8000
theorem ent_nums {e : Ent} (h : entOk e = true) : EntNums e ∧ (e.kind = 2 → grp e.nodes = true) := by
  unfold entOk at h
  simp only [Bool.and_eq_true, btw_true, decide_eq_true_eq] at h
  obtain ⟨⟨⟨_, h1⟩, h2⟩, h3⟩ := h
  by_cases k0 : e.kind = 0
  · exact ⟨⟨by omega, by omega, by omega, by omega, h2⟩, fun h => by omega⟩
  · rw [if_neg k0] at h3
    by_cases k1 : e.kind = 1
    · exact ⟨⟨by omega, by omega, by omega, by omega, h2⟩, fun h => by omega⟩
    · rw [if_neg k1] at h3
      by_cases k2 : e.kind = 2
      · rw [if_pos k2] at h3
        simp only [Bool.and_eq_true] at h3
        exact ⟨⟨by omega, by omega, by omega, by omega, h2⟩, fun _ => h3.1⟩
      · rw [if_neg k2] at h3; cases h3
theorem flat_take (l : List Ent) (k : Nat) (h : k < l.length) : (l.take (k + 1)).flatMap encEnt = (l.take k).flatMap encEnt ++ encEnt l[k] := by
  rw [List.take_succ_eq_append_getElem h, List.flatMap_append]; simp
/-- The bytes ahead of the entries. -/
def encPre (m : Let) : List UInt8 := encHead m ++ vrs [m.index.toNat, m.logTerm.toNat, m.commit.toNat, m.round.toNat, m.ents.length]

set_option maxHeartbeats 4000000 in
theorem enc_k3 (m : Let) (x : LMem) (w : World) (h : LetRd w m x) (hR : rightB m = true) (hk : m.kind = 3) :
    Calls Tryd.prog 15 #[.agg (lcells m x)] w (EncPost m w) := by
  obtain ⟨Ae, Am, Ax, ce, cm, cx⟩ := x
  have HC := Lib.hid (right_any m ⟨Ae, Am, Ax, ce, cm, cx⟩ (w.alloc (.cells (lcells m ⟨Ae, Am, Ax, ce, cm, cx⟩) 28)) (h.below ((Below.refl _ _).alloc (Nat.le_refl _) _)))
  rw [hR] at HC
  have HR := Lib.hid hR
  have HN := Lib.hid (right_nums hR)
  have HK := Lib.hid hk
  have e1 : (m.kind == 1) = false := by simp [hk]
  have e2 : (m.kind == 2) = false := by simp [hk]
  have e4 : (m.kind == 4) = false := by simp [hk]
  have e5 : (m.kind == 5) = false := by simp [hk]
  have HS := Lib.hid (fun W (h : Below (w.alloc (.cells (lcells m ⟨Ae, Am, Ax, ce, cm, cx⟩) 28)).heap.size (w.alloc (.cells (lcells m ⟨Ae, Am, Ax, ce, cm, cx⟩) 28)) W) =>
    ESt.start (((Below.refl w.heap.size w).alloc (Nat.le_refl _) (.cells (lcells m ⟨Ae, Am, Ax, ce, cm, cx⟩) 28)).trans (h.mono (by simp))) ((Blk.new w 28 (lcells m ⟨Ae, Am, Ax, ce, cm, cx⟩)).keep h) (by decide))
  have HL := Lib.hid h
  unfold lcells
  unfold lcells at HC HS
  clear h hR hk
  go_enter Tryd.func15, Tryd.ntmps15
  go_wp2_with fail
  refine HC.out.mono ?_
  rintro e w1 ⟨rfl, hB1⟩
  have HE := HS.out w1 hB1
  have c1 := HE.cells
  have HE1 := Lib.hid HE
  clear HE hB1
  go_wp2_with fail
  refine (enc_head m HN.out HE1.out (Blk.new _ _ _)).mono ?_
  rintro e w2 ⟨v2, rfl, HE2, hk2⟩
  have c2 := HE2.cells
  have HE2a := Lib.hid HE2
  clear HE2 c1
  obtain ⟨hel, hall⟩ := right_ents HR.out HK.out
  have HA := Lib.hid hall
  clear hall
  go_wp2_with fail
  refine (numbers_blk (HE2a.out.alloc _) w2.heap.size 5 5 [m.index, m.logTerm, m.commit, m.round, (m.ents.length : Int)] rfl (Blk.new _ _ _) (by
    obtain ⟨_, _, _, _, _, _, _, _, _, _, _, _, _, _, _, _⟩ := HN.out
    intro z hz
    simp only [List.mem_cons, List.not_mem_nil, or_false] at hz
    omega) (by simp)).mono ?_
  rintro e w3 ⟨v3, rfl, HE3, hk3⟩
  have c3 := HE3.cells
  have HE3a := Lib.hid (HE3.mono (N' := 100) (by simp))
  clear HE3 c2 hk3
  go_wp2_with fail
  go_loopg [4, 102] m.ents.length (fun d s4 i wr => ∃ (k : Nat) (lb : Nat) (t : TypeId) (cs : Array Value), d + k = m.ents.length ∧ k ≤ m.ents.length ∧ i = .int .i64 k ∧ w.heap.size < wr.heap.size ∧ Hid (ESt w wr lb t cs s4 (encPre m ++ (m.ents.take k).flatMap encEnt) (100 + 8100 * k)))
  case atStart =>
    have h := HE3a.out
    have hb : encHead m ++ vrs (List.map Int.toNat [m.index, m.logTerm, m.commit, m.round, (m.ents.length : Int)]) = encPre m ++ (m.ents.take 0).flatMap encEnt := by simp [encPre]
    rw [hb] at h
    exact ⟨0, _, _, _, rfl, Nat.zero_le _, rfl, h.box.lt, h⟩
  case round =>
    obtain ⟨k, lb, t, cs, hd, hk, rfl, hsz, HE⟩ := hrel
    have HD := Lib.hid hd
    clear hd c3
    by_cases hlt : k < m.ents.length
    · obtain ⟨ad, Ad, An, cd, cn, rfl, hE, hC⟩ := HL.out.ents.at_ hlt
      have hok := HA.out _ (List.getElem_mem hlt)
      have hfl := flat_take _ _ hlt
      generalize hx : m.ents[k] = e at hE hC hok hfl
      have HF := Lib.hid hfl
      obtain ⟨hen, hg2⟩ := ent_nums hok
      have HEN := Lib.hid hen
      have HG2 := Lib.hid hg2
      have HED := Lib.hid hE
      obtain ⟨q0, q1, q2, q3, q4⟩ := hC.keep (fun a v hc => cell_keep HE.out.below hc)
      have HX : Hid (ESt w (wr.alloc (.cells #[.int .i64 e.index, .int .i64 e.term, .int .i64 e.kind, .slice Ad e.data.length cd, .slice An e.nodes.length cn] 45)) wr.heap.size 45 #[.int .i64 e.index, .int .i64 e.term, .int .i64 e.kind, .slice Ad e.data.length cd, .slice An e.nodes.length cn] _ (encPre m ++ (m.ents.take k).flatMap encEnt) (100 + 8100 * k)) := (HE.out.alloc _).turn (Blk.new _ _ _) (by decide)
      have hk4 : k ≤ 3 := by omega
      clear hx hfl hok hen hg2 hE hC
      have hkk : e.kind = 0 ∨ e.kind = 1 ∨ e.kind = 2 := by have := HEN.out.k0; have := HEN.out.k2; omega
      go_wp2_with fail
      refine (numbers_blk (HX.out.alloc _) _ 2 2 [e.term, e.kind] rfl (Blk.new1 _ _ _ _) (by
        obtain ⟨_, _, _, _, _⟩ := HEN.out
        intro z hz
        simp only [List.mem_cons, List.not_mem_nil, or_false] at hz
        omega) (by simp; omega)).mono ?_
      rintro e4 w4 ⟨v4, rfl, HE4, hk4'⟩
      have c4 := HE4.cells
      have s4 := HE4.box.lt
      have HE4a := Lib.hid (HE4.mono (N' := 120 + 8100 * k) (by simp; omega))
      clear HE4 hk4'
      rcases hkk with hk0 | hk1 | hk2
      · have f1 : (e.kind == 1) = false := by simp [hk0]
        have f2 : (e.kind == 2) = false := by simp [hk0]
        have HKK := Lib.hid hk0
        clear hk0
        go_wp2_with fail
        go_roundg (m.ents.length - (k + 1))
        case measure => have := HD.out; omega
        case rel =>
          have h := HE4a.out.mono (N' := 100 + 8100 * (k + 1)) (by omega)
          have he : encEnt e = vrs (List.map Int.toNat [e.term, e.kind]) := by unfold encEnt; rw [if_neg (by rw [HKK.out]; decide), if_neg (by rw [HKK.out]; decide), List.append_nil]; rfl
          rw [← he, List.append_assoc, ← HF.out] at h
          exact ⟨k + 1, _, _, _, by omega, by omega, by go_num, by omega, h⟩
      · have f1 : (e.kind == 1) = true := by simp [hk1]
        have HKK := Lib.hid hk1
        clear hk1
        go_wp2_with fail
        have p3 : w4.cell? ⟨wr.heap.size, 3, none⟩ = some (.slice Ad e.data.length cd) := c4 3
        have HZ2 : Hid (∀ z ∈ [(e.data.length : Int)], 0 ≤ z ∧ z ≤ 9223372036854775807) := by
          have := HEN.out.dl
          intro z hz
          simp only [List.mem_cons, List.not_mem_nil, or_false] at hz
          omega
        clear c4
        go_region_held3 (fun w' => w'.cell? ⟨wr.heap.size, 3, none⟩ = some (.slice Ad e.data.length cd)) (first | go_keep)
          (first
            | (have tok := HE5a
               refine step_append_rd _ (by rfl) (.tmp 122) (.tmp 124) 24 (by rfl) w.heap.size 5 _ 1 Tryd.underlying24 info_u8 rfl v5 _ Ad e.data.length cd (bvs e.data) (by rfl) (by rfl) (by simp) HE5a.out.own (HE5a.out.rd HED.out.data) (one_bv _) (by have := HE5a.out.len; have := HEN.out.dl; simp only [maxLen, List.length_map]; omega) (by have := HE5a.out.len; have := HEN.out.dl; simp only [List.length_map]; omega) HE5a.out.below.size ?_
               intro v6 w6 happ
               have HE6 := HE5a.out.appB happ (N' := 100 + 8100 * (k + 1)) (by have := HEN.out.dl; omega)
               have c6 := HE6.cells
               have HE6a := Lib.hid HE6
               clear HE6 happ c5)
            | (go_at_call 41
               refine (numbers_blk (HE4a.out.alloc _).drew _ 1 1 [(e.data.length : Int)] rfl (Blk.new _ _ _).drew HZ2.out (by simp; omega)).mono ?_
               rintro e5 w5 ⟨v5, rfl, HE5, hk5⟩
               have c5 := HE5.cells
               have HE5a := Lib.hid (HE5.mono (N' := 130 + 8100 * k) (by simp; omega))
               clear HE5 hk5))
        go_wp2_with fail
        go_roundg (m.ents.length - (k + 1))
        case measure => have := HD.out; omega
        case rel =>
          have s6 := HE6a.out.box.lt
          have he : encEnt e = vrs (List.map Int.toNat [e.term, e.kind]) ++ (vrs (List.map Int.toNat [(e.data.length : Int)]) ++ e.data) := by unfold encEnt; rw [if_pos HKK.out]; rfl
          have h := HE6a.out
          rw [List.append_assoc, List.append_assoc, ← he, List.append_assoc, ← HF.out] at h
          exact ⟨k + 1, _, _, _, by omega, by omega, by go_num, by omega, h⟩
      · have f1 : (e.kind == 1) = false := by simp [hk2]
        have f2 : (e.kind == 2) = true := by simp [hk2]
        obtain ⟨hn0, hn5, hall⟩ := grp_all (HG2.out hk2)
        have HG : Hid (∀ z : Int, z ∈ e.nodes → 0 ≤ z ∧ z ≤ 9223372036854775807) := fun z hz => by have := hall z hz; omega
        have HKK := Lib.hid hk2
        clear hk2 hall
        go_wp2_with fail
        have p4 : w4.cell? ⟨wr.heap.size, 4, none⟩ = some (.slice An e.nodes.length cn) := c4 4
        have HZ2 : Hid (∀ z ∈ [(e.nodes.length : Int)], 0 ≤ z ∧ z ≤ 9223372036854775807) := by
          intro z hz
          simp only [List.mem_cons, List.not_mem_nil, or_false] at hz
          omega
        clear c4
        go_region_held3 (fun w' => w'.cell? ⟨wr.heap.size, 4, none⟩ = some (.slice An e.nodes.length cn)) (first | go_keep)
          (first
            | (go_at_call 41
               have tok := HE5a
               refine (numbers_arg HE5a.out An e.nodes.length cn e.nodes rfl HED.out.nodes hn0 HG.out (by omega)).mono ?_
               rintro e6 w6 ⟨v6, rfl, HE6, hk6⟩
               have c6 := HE6.cells
               have HE6a := Lib.hid (HE6.mono (N' := 100 + 8100 * (k + 1)) (by omega))
               clear HE6 c5 hk6)
            | (go_at_call 41
               refine (numbers_blk (HE4a.out.alloc _).drew _ 1 1 [(e.nodes.length : Int)] rfl (Blk.new _ _ _).drew HZ2.out (by simp; omega)).mono ?_
               rintro e5 w5 ⟨v5, rfl, HE5, hk5⟩
               have c5 := HE5.cells
               have HE5a := Lib.hid (HE5.mono (N' := 130 + 8100 * k) (by simp; omega))
               clear HE5 hk5))
        go_wp2_with fail
        go_roundg (m.ents.length - (k + 1))
        case measure => have := HD.out; omega
        case rel =>
          have s6 := HE6a.out.box.lt
          have he : encEnt e = vrs (List.map Int.toNat [e.term, e.kind]) ++ (vrs (List.map Int.toNat [(e.nodes.length : Int)]) ++ vrs (e.nodes.map Int.toNat)) := by unfold encEnt; rw [if_neg (by rw [HKK.out]; decide), if_pos HKK.out]; rfl
          have h := HE6a.out
          rw [List.append_assoc, List.append_assoc, ← he, List.append_assoc, ← HF.out] at h
          exact ⟨k + 1, _, _, _, by omega, by omega, by go_num, by omega, h⟩
    · go_wp2_with fail
      go_ret2
      refine EncPost.yes HR.out HE.out ?_
      rw [List.take_of_length_le (by omega)]
      unfold encF encBody encPre
      rw [if_neg (by rw [HK.out]; decide), if_neg (by rw [HK.out]; decide), if_neg (by rw [HK.out]; decide), if_neg (by rw [HK.out]; decide), List.append_assoc]

/-- wire.Encode, of every letter. -/
theorem enc_any (m : Let) (x : LMem) (w : World) (h : LetRd w m x) :
    Calls Tryd.prog 15 #[.agg (lcells m x)] w (EncPost m w) := by
  cases hR : rightB m
  · exact enc_no m x w h hR
  · rcases right_kind hR with hk | hk | hk | hk | hk
    · exact enc_k1 m x w h hR hk
    · exact enc_k2 m x w h hR hk
    · exact enc_k3 m x w h hR hk
    · exact enc_k4 m x w h hR hk
    · exact enc_k5 m x w h hR hk
end Go.Proofs.YtmgandacmhkndaaDoor
