/- wire.Encode of a letter that is not right, and of the kinds LAsk, LVote, LAnswer: its walk. Conditions: the letter's lists read as such. -/
import Derived.Test.YtmgandacmhkndaaDoorEncS
import Derived.Deep.DeepCutAuto
import Derived.Deep.CutBlock
import Derived.Deep.RegionHeld3
import Derived.Deep.DrawnRows
namespace Go.Proofs.YtmgandacmhkndaaDoor
open Go.RowKit
set_option maxRecDepth 100000
set_option linter.unusedSimpArgs false

/-- The numbers of a right letter. -/
structure Nums (m : Let) : Prop where
  k0 : 0 ≤ m.kind
  k1 : m.kind ≤ 5
  f0 : 0 ≤ m.from_
  f1 : m.from_ ≤ 5
  t0 : 0 ≤ m.to_
  t1 : m.to_ ≤ 5
  m0 : 0 ≤ m.term
  m1 : m.term ≤ 999999
  i0 : 0 ≤ m.index
  i1 : m.index ≤ 999999
  l0 : 0 ≤ m.logTerm
  l1 : m.logTerm ≤ 999999
  c0 : 0 ≤ m.commit
  c1 : m.commit ≤ 999999
  r0 : 0 ≤ m.round
  r1 : m.round ≤ 1073741824
theorem right_kind {m : Let} (h : rightB m = true) : m.kind = 1 ∨ m.kind = 2 ∨ m.kind = 3 ∨ m.kind = 4 ∨ m.kind = 5 := by
  unfold rightB rightK at h; grind
theorem right_nums {m : Let} (h : rightB m = true) : Nums m := by
  have hk := right_kind h
  unfold rightB hdrOk numOk at h
  simp only [Bool.and_eq_true, btw_true] at h
  obtain ⟨⟨⟨⟨⟨h1, h2⟩, _⟩, h3⟩, ⟨⟨⟨h4, h5⟩, h6⟩, h7⟩⟩, _⟩ := h
  constructor <;> omega

def EncPost (m : Let) (w : World) (e : Ending) (w' : World) : Prop :=
  Below w.heap.size w w' ∧ if rightB m = true then ∃ v, e = .returned (.tuple #[v, .int .i64 0]) ∧ OwnB w' w.heap.size v (encF m) else e = .returned (.tuple #[.slice none 0 0, .int .i64 1])
theorem EncPost.yes {m : Let} {w w' : World} {v : Value} {lb N : Nat} {t : TypeId} {cs : Array Value} {bs : List UInt8} (hR : rightB m = true) (h : ESt w w' lb t cs v bs N) (hb : bs = encF m) :
    EncPost m w (.returned (.tuple #[v, .int .i64 0])) w' := by
  subst hb
  refine ⟨h.below, ?_⟩
  rw [if_pos hR]; exact ⟨v, rfl, h.own⟩
theorem ESt.start {w W : World} {lb : Nat} {t : TypeId} {cs : Array Value} (hb : Below w.heap.size w W) (hB : Blk W lb t cs) (hne : 5 ≠ t) : ESt w W lb t cs (.slice none 0 0) [] 0 :=
  ⟨hb, hB, own_nil _ _ _ _, hne, Nat.le_refl _⟩

set_option maxHeartbeats 4000000 in
theorem enc_no (m : Let) (x : LMem) (w : World) (h : LetRd w m x) (hR : rightB m = false) :
    Calls Tryd.prog 15 #[.agg (lcells m x)] w (EncPost m w) := by
  have HC := Lib.hid (right_any m x (w.alloc (.cells (lcells m x) 28)) (h.below ((Below.refl _ _).alloc (Nat.le_refl _) _)))
  rw [hR] at HC
  unfold lcells
  unfold lcells at HC
  clear h
  go_enter Tryd.func15, Tryd.ntmps15
  go_wp2_with fail
  refine HC.out.mono ?_
  rintro e w1 ⟨rfl, hB1⟩
  go_wp2_with fail
  go_ret2
  refine ⟨((Below.refl w.heap.size w).alloc (Nat.le_refl _) _).trans (hB1.mono (by simp)), ?_⟩
  rw [hR]; simp

/-- Ahead of the kind: the head is written. -/
theorem enc_head (m : Let) (hN : Nums m) {w W : World} {lb : Nat} {t : TypeId} {cs : Array Value} (h : ESt w W lb t cs (.slice none 0 0) [] 0) (hB : Blk (W.alloc (.cells #[.int .i64 m.kind, .int .i64 m.from_, .int .i64 m.to_, .int .i64 m.term] 3)) W.heap.size 3 #[.int .i64 m.kind, .int .i64 m.from_, .int .i64 m.to_, .int .i64 m.term]) :
    Calls Tryd.prog 41 #[.slice none 0 0, .slice (some ⟨W.heap.size, 0, none⟩) 4 4] (W.alloc (.cells #[.int .i64 m.kind, .int .i64 m.from_, .int .i64 m.to_, .int .i64 m.term] 3)) (EncSt w lb t cs (encHead m) 40 (W.alloc (.cells #[.int .i64 m.kind, .int .i64 m.from_, .int .i64 m.to_, .int .i64 m.term] 3))) := by
  have hh := numbers_blk (h.alloc (.cells #[.int .i64 m.kind, .int .i64 m.from_, .int .i64 m.to_, .int .i64 m.term] 3)) W.heap.size 4 4 [m.kind, m.from_, m.to_, m.term] rfl hB (by
    obtain ⟨_, _, _, _, _, _, _, _⟩ := hN
    intro z hz
    simp only [List.mem_cons, List.not_mem_nil, or_false] at hz
    omega) (by simp)
  exact hh

set_option maxHeartbeats 4000000 in
theorem enc_k1 (m : Let) (x : LMem) (w : World) (h : LetRd w m x) (hR : rightB m = true) (hk : m.kind = 1) :
    Calls Tryd.prog 15 #[.agg (lcells m x)] w (EncPost m w) := by
  have HC := Lib.hid (right_any m x (w.alloc (.cells (lcells m x) 28)) (h.below ((Below.refl _ _).alloc (Nat.le_refl _) _)))
  rw [hR] at HC
  have HR := Lib.hid hR
  have HN := Lib.hid (right_nums hR)
  have HK := Lib.hid hk
  have e1 : (m.kind == 1) = true := by simpa using hk
  have HS := Lib.hid (fun W (h : Below (w.alloc (.cells (lcells m x) 28)).heap.size (w.alloc (.cells (lcells m x) 28)) W) =>
    ESt.start (((Below.refl w.heap.size w).alloc (Nat.le_refl _) (.cells (lcells m x) 28)).trans (h.mono (by simp))) ((Blk.new w 28 (lcells m x)).keep h) (by decide))
  have HL := Lib.hid h
  unfold lcells
  unfold lcells at HC HS
  clear h hR hk
  go_enter Tryd.func15, Tryd.ntmps15
  go_wp2_with fail
  refine HC.out.mono ?_
  rintro e w1 ⟨rfl, hB1⟩
  have HE := HS.out w1 hB1
  have c1 := HE.cells
  have HE1 := Lib.hid HE
  clear HE hB1
  go_wp2_with fail
  refine (enc_head m HN.out HE1.out (Blk.new _ _ _)).mono ?_
  rintro e w2 ⟨v2, rfl, HE2, hk2⟩
  have c2 := HE2.cells
  have HE2a := Lib.hid HE2
  clear HE2 c1
  go_wp2_with fail
  refine (numbers_blk (HE2a.out.alloc _) w2.heap.size 2 2 [m.index, m.logTerm] rfl (Blk.new _ _ _) (by
    obtain ⟨_, _, _, _, _, _, _, _, _, _, _, _, _, _, _, _⟩ := HN.out
    intro z hz
    simp only [List.mem_cons, List.not_mem_nil, or_false] at hz
    omega) (by simp)).mono ?_
  rintro e w3 ⟨v3, rfl, HE3, hk3⟩
  go_wp2_with fail
  go_ret2
  exact EncPost.yes HR.out HE3 (by unfold encF encBody; rw [if_pos HK.out]; rfl)

set_option maxHeartbeats 4000000 in
theorem enc_k2 (m : Let) (x : LMem) (w : World) (h : LetRd w m x) (hR : rightB m = true) (hk : m.kind = 2) :
    Calls Tryd.prog 15 #[.agg (lcells m x)] w (EncPost m w) := by
  have HC := Lib.hid (right_any m x (w.alloc (.cells (lcells m x) 28)) (h.below ((Below.refl _ _).alloc (Nat.le_refl _) _)))
  rw [hR] at HC
  have HR := Lib.hid hR
  have HN := Lib.hid (right_nums hR)
  have HK := Lib.hid hk
  have e1 : (m.kind == 1) = false := by simp [hk]
  have e2 : (m.kind == 2) = true := by simpa using hk
  have HS := Lib.hid (fun W (h : Below (w.alloc (.cells (lcells m x) 28)).heap.size (w.alloc (.cells (lcells m x) 28)) W) =>
    ESt.start (((Below.refl w.heap.size w).alloc (Nat.le_refl _) (.cells (lcells m x) 28)).trans (h.mono (by simp))) ((Blk.new w 28 (lcells m x)).keep h) (by decide))
  have HL := Lib.hid h
  unfold lcells
  unfold lcells at HC HS
  clear h hR hk
  go_enter Tryd.func15, Tryd.ntmps15
  go_wp2_with fail
  refine HC.out.mono ?_
  rintro e w1 ⟨rfl, hB1⟩
  have HE := HS.out w1 hB1
  have c1 := HE.cells
  have HE1 := Lib.hid HE
  clear HE hB1
  go_wp2_with fail
  refine (enc_head m HN.out HE1.out (Blk.new _ _ _)).mono ?_
  rintro e w2 ⟨v2, rfl, HE2, hk2⟩
  have c2 := HE2.cells
  have HE2a := Lib.hid HE2
  clear HE2 c1
  obtain ⟨o, ho⟩ : ∃ o : Int, o = ((bit1 m.ok : Nat) : Int) := ⟨_, rfl⟩
  have hbit : ∀ W, Calls Tryd.prog 42 #[.bool m.ok] W fun e w' => e = .returned (.int .i64 o) ∧ W = w' := fun W => by rw [ho]; exact bit_any m.ok W
  have ho01 : 0 ≤ o ∧ o ≤ 1 := by rw [ho]; unfold bit1; split <;> decide
  have HBit := Lib.hid hbit
  have HO := Lib.hid ho
  clear hbit ho
  go_wp2_with fail
  refine (HBit.out w2).mono ?_
  rintro e w3 ⟨rfl, rfl⟩
  go_wp2_with fail
  refine (numbers_blk (HE2a.out.alloc _) w2.heap.size 1 1 [o] rfl (Blk.new _ _ _) (by
    intro z hz
    simp only [List.mem_cons, List.not_mem_nil, or_false] at hz
    omega) (by simp)).mono ?_
  rintro e w3 ⟨v3, rfl, HE3, hk3⟩
  go_wp2_with fail
  go_ret2
  exact EncPost.yes HR.out HE3 (by unfold encF encBody; rw [if_neg (by rw [HK.out]; decide), if_pos HK.out, HO.out]; rfl)

set_option maxHeartbeats 4000000 in
theorem enc_k4 (m : Let) (x : LMem) (w : World) (h : LetRd w m x) (hR : rightB m = true) (hk : m.kind = 4) :
    Calls Tryd.prog 15 #[.agg (lcells m x)] w (EncPost m w) := by
  have HC := Lib.hid (right_any m x (w.alloc (.cells (lcells m x) 28)) (h.below ((Below.refl _ _).alloc (Nat.le_refl _) _)))
  rw [hR] at HC
  have HR := Lib.hid hR
  have HN := Lib.hid (right_nums hR)
  have HK := Lib.hid hk
  have e1 : (m.kind == 1) = false := by simp [hk]
  have e2 : (m.kind == 2) = false := by simp [hk]
  have e4 : (m.kind == 4) = true := by simpa using hk
  have HS := Lib.hid (fun W (h : Below (w.alloc (.cells (lcells m x) 28)).heap.size (w.alloc (.cells (lcells m x) 28)) W) =>
    ESt.start (((Below.refl w.heap.size w).alloc (Nat.le_refl _) (.cells (lcells m x) 28)).trans (h.mono (by simp))) ((Blk.new w 28 (lcells m x)).keep h) (by decide))
  have HL := Lib.hid h
  unfold lcells
  unfold lcells at HC HS
  clear h hR hk
  go_enter Tryd.func15, Tryd.ntmps15
  go_wp2_with fail
  refine HC.out.mono ?_
  rintro e w1 ⟨rfl, hB1⟩
  have HE := HS.out w1 hB1
  have c1 := HE.cells
  have HE1 := Lib.hid HE
  clear HE hB1
  go_wp2_with fail
  refine (enc_head m HN.out HE1.out (Blk.new _ _ _)).mono ?_
  rintro e w2 ⟨v2, rfl, HE2, hk2⟩
  have c2 := HE2.cells
  have HE2a := Lib.hid HE2
  clear HE2 c1
  obtain ⟨o, ho⟩ : ∃ o : Int, o = ((bit1 m.ok : Nat) : Int) := ⟨_, rfl⟩
  have hbit : ∀ W, Calls Tryd.prog 42 #[.bool m.ok] W fun e w' => e = .returned (.int .i64 o) ∧ W = w' := fun W => by rw [ho]; exact bit_any m.ok W
  have ho01 : 0 ≤ o ∧ o ≤ 1 := by rw [ho]; unfold bit1; split <;> decide
  have HBit := Lib.hid hbit
  have HO := Lib.hid ho
  clear hbit ho
  go_wp2_with fail
  have q4 : w2.cell? ⟨w.heap.size, 4, none⟩ = some (.int .i64 m.index) := c2 4
  have q7 : w2.cell? ⟨w.heap.size, 7, none⟩ = some (.int .i64 m.round) := c2 7
  have q8 : w2.cell? ⟨w.heap.size, 8, none⟩ = some (.bool m.ok) := c2 8
  have hlt := HE2a.out.box.lt
  have HZ : Hid (∀ z ∈ [o, m.index, m.round], 0 ≤ z ∧ z ≤ 9223372036854775807) := by
    obtain ⟨_, _, _, _, _, _, _, _, _, _, _, _, _, _, _, _⟩ := HN.out
    intro z hz
    simp only [List.mem_cons, List.not_mem_nil, or_false] at hz
    omega
  clear c2
  go_region_held3 (fun w' => w'.cell? ⟨w.heap.size, 4, none⟩ = some (.int .i64 m.index) ∧ w'.cell? ⟨w.heap.size, 7, none⟩ = some (.int .i64 m.round) ∧ w'.cell? ⟨w.heap.size, 8, none⟩ = some (.bool m.ok)) (first | go_keep)
    (first
      | (go_at_call 42; refine (HBit.out _).mono ?_; rintro e w3 ⟨rfl, rfl⟩)
      | (go_at_call 41; refine (numbers_blk (HE2a.out.alloc _).drew w2.heap.size 3 3 [o, m.index, m.round] rfl (Blk.new _ _ _).drew HZ.out (by simp)).mono ?_; rintro e w3 ⟨v3, rfl, HE3, hk3⟩; have c3 := HE3.cells; have HE3a := Lib.hid HE3; clear HE3))
  go_wp2_with fail
  go_ret2
  exact EncPost.yes HR.out HE3a.out (by unfold encF encBody; rw [if_neg (by rw [HK.out]; decide), if_neg (by rw [HK.out]; decide), if_pos HK.out, HO.out]; rfl)

end Go.Proofs.YtmgandacmhkndaaDoor
