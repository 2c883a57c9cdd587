/- Plain laws of the wire: what is written is read, what is read is what is written. No walk. No conditions. -/
import Derived.Test.YtmgandacmhkndaaDoorDec
import Derived.Test.YtmgandacmhkndaaDoorEnc3
namespace Go.Proofs.YtmgandacmhkndaaDoor
set_option linter.unusedSimpArgs false

theorem drop_app {b bs rest : List UInt8} {a : Nat} (h : b.drop a = bs ++ rest) : b.drop (a + bs.length) = rest := by
  rw [← List.drop_drop, h, List.drop_left]

/-! What is written is read. -/
theorem rnum_go {b rest : List UInt8} {a n most : Nat} (h : b.drop a = vr n ++ rest) (hn : n ≤ most) (hm : most < 18446744073709551616) :
    rnum b most a = .ok (n, a + (vr n).length) ∧ b.drop (a + (vr n).length) = rest := by
  refine ⟨?_, drop_app h⟩
  have hp := vr_pos n
  unfold rnum
  rw [h, getN_vr (by omega)]
  simp only
  rw [if_neg (by omega)]
theorem rtext_go {b d rest : List UInt8} {a most : Nat} (h : b.drop a = vr d.length ++ (d ++ rest)) (hn : d.length ≤ most) (hm : most < 18446744073709551616) :
    rtext b most a = .ok (d, a + ((vr d.length).length + d.length)) ∧ b.drop (a + ((vr d.length).length + d.length)) = rest := by
  have h2 := drop_app h
  have h3 := drop_app h2
  refine ⟨?_, by rw [← Nat.add_assoc]; exact h3⟩
  have hp := vr_pos d.length
  have hg : getT (b.drop a) most = (d, (vr d.length).length + d.length) := by
    unfold getT
    rw [h, getN_vr (by omega)]
    simp only
    rw [if_neg (by simp only [List.length_append]; omega), List.drop_left, List.take_left]
  unfold rtext
  rw [hg]
  simp only
  rw [if_neg (by omega)]
theorem rnums_go {b : List UInt8} (l : List Nat) : ∀ {rest : List UInt8} {a : Nat}, b.drop a = vrs l ++ rest → (∀ n ∈ l, n ≤ 5) →
    rnums b 5 l.length a = .ok (l, a + (vrs l).length) ∧ b.drop (a + (vrs l).length) = rest := by
  induction l with
  | nil => intro rest a h _; exact ⟨rfl, by simpa [vrs] using h⟩
  | cons n r ih =>
    intro rest a h hn
    have h0 : b.drop a = vr n ++ (vrs r ++ rest) := by rw [h]; simp [vrs]
    obtain ⟨h1, h2⟩ := rnum_go (most := 5) h0 (hn n (List.mem_cons_self ..)) (by omega)
    obtain ⟨h3, h4⟩ := ih h2 fun m hm => hn m (List.mem_cons_of_mem _ hm)
    have hl : a + (vrs (n :: r)).length = a + (vr n).length + (vrs r).length := by simp [vrs]; omega
    rw [hl]
    refine ⟨?_, h4⟩
    rw [List.length_cons, rnums, h1]
    simp only
    rw [h3]
theorem rnodes_go {b rest : List UInt8} {a : Nat} {l : List Nat} (h : b.drop a = vr l.length ++ (vrs l ++ rest)) (hl : l.length ≤ 5) (hn : ∀ n ∈ l, n ≤ 5) :
    rnodes b a = .ok (l, a + ((vr l.length).length + (vrs l).length)) ∧ b.drop (a + ((vr l.length).length + (vrs l).length)) = rest := by
  obtain ⟨h1, h2⟩ := rnum_go (most := 5) h hl (by omega)
  obtain ⟨h3, h4⟩ := rnums_go l h2 hn
  rw [← Nat.add_assoc]
  refine ⟨?_, h4⟩
  unfold rnodes; rw [h1]; exact h3
theorem toNat_cast {z : Int} (h : 0 ≤ z) : ((z.toNat : Nat) : Int) = z := Int.toNat_of_nonneg h
theorem grp_nats {l : List Int} (h : grp l = true) : (l.map Int.toNat).length ≤ 5 ∧ (∀ n ∈ l.map Int.toNat, n ≤ 5) ∧ (l.map Int.toNat).map Int.ofNat = l := by
  obtain ⟨_, h2, h3⟩ := grp_all h
  refine ⟨by rw [List.length_map]; exact h2, ?_, nat_ints l fun z hz => by have := h3 z hz; omega⟩
  intro n hn
  obtain ⟨z, hz, rfl⟩ := List.mem_map.1 hn
  have := h3 z hz
  omega
theorem ent_shape {e : Ent} (h : entOk e = true) : (e.kind = 0 ∧ e.data = [] ∧ e.nodes = []) ∨ (e.kind = 1 ∧ e.nodes = []) ∨ (e.kind = 2 ∧ e.data = [] ∧ grp e.nodes = true) := by
  unfold entOk at h
  simp only [Bool.and_eq_true] at h
  obtain ⟨_, h3⟩ := h
  by_cases k0 : e.kind = 0
  · rw [if_pos k0] at h3
    simp only [decide_eq_true_eq] at h3
    exact .inl ⟨k0, List.eq_nil_of_length_eq_zero h3.1, List.eq_nil_of_length_eq_zero h3.2⟩
  · rw [if_neg k0] at h3
    by_cases k1 : e.kind = 1
    · rw [if_pos k1] at h3
      simp only [decide_eq_true_eq] at h3
      exact .inr (.inl ⟨k1, List.eq_nil_of_length_eq_zero h3⟩)
    · rw [if_neg k1] at h3
      by_cases k2 : e.kind = 2
      · rw [if_pos k2] at h3
        simp only [Bool.and_eq_true, decide_eq_true_eq] at h3
        exact .inr (.inr ⟨k2, List.eq_nil_of_length_eq_zero h3.2, h3.1⟩)
      · rw [if_neg k2] at h3; cases h3
theorem rent_go {b rest : List UInt8} {a : Nat} {e : Ent} (hok : entOk e = true) (h : b.drop a = encEnt e ++ rest) :
    rent b e.index a = .ok (e, a + (encEnt e).length) ∧ b.drop (a + (encEnt e).length) = rest := by
  refine ⟨?_, drop_app h⟩
  obtain ⟨hn, _⟩ := ent_nums hok
  have h0 := hn.t0; have h1 := hn.t1; have h2 := hn.k0; have h3 := hn.k2; have h4 := hn.dl
  obtain ⟨ix, tm, kd, dt, nd⟩ := e
  simp only at h0 h1 h2 h3 h4
  rcases ent_shape hok with ⟨k, d, n⟩ | ⟨k, n⟩ | ⟨k, d, n⟩
  · simp only at k d n
    subst k d n
    simp only [encEnt, vrs, List.flatMap_cons, List.flatMap_nil, List.append_nil, List.append_assoc] at h ⊢
    rw [if_neg (by decide), if_neg (by decide)] at h ⊢
    obtain ⟨e1, d1⟩ := rnum_go (most := 999999) h (by omega) (by omega)
    obtain ⟨e2, d2⟩ := rnum_go (most := 2) d1 (by omega) (by omega)
    unfold rent entBody
    rw [e1, bnd_ok, e2, bnd_ok, if_neg (by simp), if_neg (by simp), toNat_cast h0]
    simp [Nat.add_assoc]
  · simp only at k n
    subst k n
    simp only [encEnt, vrs, List.flatMap_cons, List.flatMap_nil, List.append_nil, List.append_assoc] at h ⊢
    rw [if_pos (by decide)] at h ⊢
    simp only [List.append_assoc] at h
    obtain ⟨e1, d1⟩ := rnum_go (most := 999999) h (by omega) (by omega)
    obtain ⟨e2, d2⟩ := rnum_go (most := 2) d1 (by omega) (by omega)
    obtain ⟨e3, d3⟩ := rtext_go (most := 8000) d2 h4 (by omega)
    unfold rent entBody
    rw [e1, bnd_ok, e2, bnd_ok, if_pos (by simp), e3, bnd_ok, toNat_cast h0]
    simp [Nat.add_assoc]
  · simp only at k d n
    subst k d
    obtain ⟨g1, g2, g3⟩ := grp_nats n
    simp only [encEnt, vrs, List.flatMap_cons, List.flatMap_nil, List.append_nil, List.append_assoc] at h ⊢
    rw [if_neg (by decide), if_pos (by decide)] at h ⊢
    simp only [List.append_assoc] at h
    obtain ⟨e1, d1⟩ := rnum_go (most := 999999) h (by omega) (by omega)
    obtain ⟨e2, d2⟩ := rnum_go (most := 2) d1 (by omega) (by omega)
    have d2' : b.drop (a + (vr tm.toNat).length + (vr (2 : Int).toNat).length) = vr (nd.map Int.toNat).length ++ (vrs (nd.map Int.toNat) ++ rest) := by rw [d2, List.length_map]; rfl
    obtain ⟨e3, d3⟩ := rnodes_go d2' g1 g2
    unfold rent entBody
    rw [e1, bnd_ok, e2, bnd_ok, if_neg (by simp), if_pos (by simp), e3, bnd_ok, toNat_cast h0, g3]
    simp [Nat.add_assoc, vrs]
theorem rents_go {b : List UInt8} (l : List Ent) : ∀ {rest : List UInt8} {a : Nat} {i t top : Int}, b.drop a = l.flatMap encEnt ++ rest → entsFrom top i t l = true →
    rents b i l.length a = .ok (l, a + (l.flatMap encEnt).length) ∧ b.drop (a + (l.flatMap encEnt).length) = rest := by
  induction l with
  | nil => intro rest a i t top h _; exact ⟨rfl, by simpa using h⟩
  | cons e r ih =>
    intro rest a i t top h hf
    simp only [entsFrom, Bool.and_eq_true, decide_eq_true_eq] at hf
    obtain ⟨⟨⟨ho, hi⟩, _⟩, hr⟩ := hf
    have h0 : b.drop a = encEnt e ++ (r.flatMap encEnt ++ rest) := by rw [h]; simp
    obtain ⟨h1, h2⟩ := rent_go ho h0
    obtain ⟨h3, h4⟩ := ih h2 hr
    have hl : a + ((e :: r).flatMap encEnt).length = a + (encEnt e).length + (r.flatMap encEnt).length := by simp; omega
    rw [hl]
    refine ⟨?_, h4⟩
    rw [List.length_cons, rents, ← hi, h1, bnd_ok, hi, h3, bnd_ok]
theorem ents_right {m : Let} (h : rightB m = true) (hk : m.kind = 3) : entsFrom m.term (m.index + 1) m.logTerm m.ents = true ∧ m.snap = noSnp ∧ m.ok = false := by
  unfold rightB rightK at h
  rw [if_neg (by omega), if_neg (by omega), if_pos hk] at h
  simp only [Bool.and_eq_true, Bool.not_eq_true', decide_eq_true_eq] at h
  obtain ⟨_, ⟨⟨⟨h1, _⟩, h3⟩, h4⟩⟩ := h
  refine ⟨h1, ?_, h4⟩
  unfold noSnap at h3
  simp only [decide_eq_true_eq] at h3
  obtain ⟨a, b, c, d⟩ := h3
  rcases hm : m.snap with ⟨i, t, n, dd⟩
  rw [hm] at a b c d
  simp only at a b c d
  rw [List.eq_nil_of_length_eq_zero c, List.eq_nil_of_length_eq_zero d, a, b]; rfl
theorem noSnap_eq {x : Snp} (h : noSnap x = true) : x = noSnp := by
  unfold noSnap at h
  simp only [decide_eq_true_eq] at h
  obtain ⟨a, b, c, d⟩ := h
  rcases x with ⟨i, t, n, dd⟩
  simp only at a b c d
  rw [List.eq_nil_of_length_eq_zero c, List.eq_nil_of_length_eq_zero d, a, b]; rfl

/-- What is written is read, whatever stands behind. -/
theorem letF_enc {b rest : List UInt8} {a : Nat} {m : Let} (hR : rightB m = true) (h : b.drop a = encF m ++ rest) : letF b a = .ok (m, a + (encF m).length) := by
  have hN := right_nums hR
  obtain ⟨n1, n2, n3, n4, n5, n6, n7, n8, n9, n10, n11, n12, n13, n14, n15, n16⟩ := hN
  have hRR := hR
  have hk := right_kind hR
  unfold rightB rightK at hRR
  obtain ⟨kd, fr, tt, tm, ix, lt, cm, rd, ok, es, sn⟩ := m
  simp only at n1 n2 n3 n4 n5 n6 n7 n8 n9 n10 n11 n12 n13 n14 n15 n16 hk
  simp only [Bool.and_eq_true] at hRR
  have hRK := hRR.2
  clear hRR
  rcases hk with k | k | k | k | k
  · subst k
    rw [if_pos rfl] at hRK
    simp only [Bool.and_eq_true, decide_eq_true_eq] at hRK
    obtain ⟨⟨q1, q2⟩, q3, q4, q5⟩ := hRK
    have q1 := List.eq_nil_of_length_eq_zero q1
    have q2 := noSnap_eq q2
    subst q1 q2 q3 q4 q5
    simp only [encF, encHead, encBody, vrs, List.flatMap_cons, List.flatMap_nil, List.append_nil, List.append_assoc] at h ⊢
    rw [if_pos (by decide)] at h ⊢
    simp only [List.append_assoc] at h
    obtain ⟨e1, d1⟩ := rnum_go (most := 5) h (by omega) (by omega)
    obtain ⟨e2, d2⟩ := rnum_go (most := 5) d1 (by omega) (by omega)
    obtain ⟨e3, d3⟩ := rnum_go (most := 5) d2 (by omega) (by omega)
    obtain ⟨e4, d4⟩ := rnum_go (most := 999999) d3 (by omega) (by omega)
    obtain ⟨e5, d5⟩ := rnum_go (most := 999999) d4 (by omega) (by omega)
    obtain ⟨e6, d6⟩ := rnum_go (most := 999999) d5 (by omega) (by omega)
    unfold letF letBody
    rw [e1, bnd_ok, e2, bnd_ok, e3, bnd_ok, e4, bnd_ok, if_neg (by simp), if_pos (by simp), e5, bnd_ok, e6, bnd_ok]
    rw [toNat_cast n3, toNat_cast n5, toNat_cast n7, toNat_cast n9, toNat_cast n11]
    simp [Nat.add_assoc]
  · subst k
    rw [if_neg (by decide), if_pos rfl] at hRK
    simp only [Bool.and_eq_true, decide_eq_true_eq] at hRK
    obtain ⟨⟨q1, q2⟩, q3, q4, q5, q6⟩ := hRK
    have q1 := List.eq_nil_of_length_eq_zero q1
    have q2 := noSnap_eq q2
    subst q1 q2 q3 q4 q5 q6
    simp only [encF, encHead, encBody, vrs, List.flatMap_cons, List.flatMap_nil, List.append_nil, List.append_assoc] at h ⊢
    rw [if_neg (by decide), if_pos (by decide)] at h ⊢
    obtain ⟨e1, d1⟩ := rnum_go (most := 5) h (by omega) (by omega)
    obtain ⟨e2, d2⟩ := rnum_go (most := 5) d1 (by omega) (by omega)
    obtain ⟨e3, d3⟩ := rnum_go (most := 5) d2 (by omega) (by omega)
    obtain ⟨e4, d4⟩ := rnum_go (most := 999999) d3 (by omega) (by omega)
    obtain ⟨e5, d5⟩ := rnum_go (most := 1) d4 (by unfold bit1; split <;> omega) (by omega)
    unfold letF letBody
    rw [e1, bnd_ok, e2, bnd_ok, e3, bnd_ok, e4, bnd_ok, if_neg (by simp), if_neg (by simp), if_pos (by simp), e5, bnd_ok]
    rw [toNat_cast n3, toNat_cast n5, toNat_cast n7]
    have hb : (((bit1 ok : Nat) : Int) == 1) = ok := by cases ok <;> rfl
    rw [hb]
    simp [Nat.add_assoc]
  · subst k
    obtain ⟨q1, q2, q3⟩ := ents_right hR rfl
    obtain ⟨q4, q5⟩ := right_ents hR rfl
    simp only at q1 q2 q3 q4 q5
    subst q2 q3
    simp only [encF, encHead, encBody, vrs, List.flatMap_cons, List.flatMap_nil, List.append_nil, List.append_assoc] at h ⊢
    rw [if_neg (by decide), if_neg (by decide), if_neg (by decide), if_neg (by decide)] at h ⊢
    simp only [List.append_assoc] at h
    obtain ⟨e1, d1⟩ := rnum_go (most := 5) h (by omega) (by omega)
    obtain ⟨e2, d2⟩ := rnum_go (most := 5) d1 (by omega) (by omega)
    obtain ⟨e3, d3⟩ := rnum_go (most := 5) d2 (by omega) (by omega)
    obtain ⟨e4, d4⟩ := rnum_go (most := 999999) d3 (by omega) (by omega)
    obtain ⟨e5, d5⟩ := rnum_go (most := 999999) d4 (by omega) (by omega)
    obtain ⟨e6, d6⟩ := rnum_go (most := 999999) d5 (by omega) (by omega)
    obtain ⟨e7, d7⟩ := rnum_go (most := 999999) d6 (by omega) (by omega)
    obtain ⟨e8, d8⟩ := rnum_go (most := 1073741824) d7 (by omega) (by omega)
    obtain ⟨e9, d9⟩ := rnum_go (most := 4) d8 q4 (by omega)
    obtain ⟨ea, da⟩ := rents_go es d9 q1
    unfold letF letBody
    rw [e1, bnd_ok, e2, bnd_ok, e3, bnd_ok, e4, bnd_ok, if_neg (by simp), if_neg (by simp), if_neg (by simp), if_neg (by simp), if_neg (by simp), e5, bnd_ok, e6, bnd_ok, e7, bnd_ok, e8, bnd_ok, e9, bnd_ok]
    rw [toNat_cast n9, ea, bnd_ok, toNat_cast n3, toNat_cast n5, toNat_cast n7, toNat_cast n11, toNat_cast n13, toNat_cast n15]
    simp [Nat.add_assoc]
  · subst k
    rw [if_neg (by decide), if_neg (by decide), if_neg (by decide), if_pos rfl] at hRK
    simp only [Bool.and_eq_true, decide_eq_true_eq] at hRK
    obtain ⟨⟨q1, q2⟩, q3, q4⟩ := hRK
    have q1 := List.eq_nil_of_length_eq_zero q1
    have q2 := noSnap_eq q2
    subst q1 q2 q3 q4
    simp only [encF, encHead, encBody, vrs, List.flatMap_cons, List.flatMap_nil, List.append_nil, List.append_assoc] at h ⊢
    rw [if_neg (by decide), if_neg (by decide), if_pos (by decide)] at h ⊢
    simp only [List.append_assoc] at h
    obtain ⟨e1, d1⟩ := rnum_go (most := 5) h (by omega) (by omega)
    obtain ⟨e2, d2⟩ := rnum_go (most := 5) d1 (by omega) (by omega)
    obtain ⟨e3, d3⟩ := rnum_go (most := 5) d2 (by omega) (by omega)
    obtain ⟨e4, d4⟩ := rnum_go (most := 999999) d3 (by omega) (by omega)
    obtain ⟨e5, d5⟩ := rnum_go (most := 1) d4 (by unfold bit1; split <;> omega) (by omega)
    obtain ⟨e6, d6⟩ := rnum_go (most := 999999) d5 (by omega) (by omega)
    obtain ⟨e7, d7⟩ := rnum_go (most := 1073741824) d6 (by omega) (by omega)
    unfold letF letBody
    rw [e1, bnd_ok, e2, bnd_ok, e3, bnd_ok, e4, bnd_ok, if_neg (by simp), if_neg (by simp), if_neg (by simp), if_pos (by simp), e5, bnd_ok, e6, bnd_ok, e7, bnd_ok]
    rw [toNat_cast n3, toNat_cast n5, toNat_cast n7, toNat_cast n9, toNat_cast n15]
    have hb : (((bit1 ok : Nat) : Int) == 1) = ok := by cases ok <;> rfl
    rw [hb]
    simp [Nat.add_assoc]
  · subst k
    obtain ⟨s0, s1, t0, t1, hg, hd⟩ := right_snap hR rfl
    rw [if_neg (by decide), if_neg (by decide), if_neg (by decide), if_neg (by decide), if_pos rfl] at hRK
    simp only [Bool.and_eq_true, decide_eq_true_eq] at hRK
    obtain ⟨⟨q1, _⟩, q3, q4, q5, q6⟩ := hRK
    have q1 := List.eq_nil_of_length_eq_zero q1
    obtain ⟨si, st, sn, sd⟩ := sn
    simp only at s0 s1 t0 t1 hg hd
    subst q1 q3 q4 q5 q6
    obtain ⟨g1, g2, g3⟩ := grp_nats hg
    simp only [encF, encHead, encBody, vrs, List.flatMap_cons, List.flatMap_nil, List.append_nil, List.append_assoc] at h ⊢
    rw [if_neg (by decide), if_neg (by decide), if_neg (by decide), if_pos (by decide)] at h ⊢
    simp only [List.append_assoc] at h
    obtain ⟨e1, d1⟩ := rnum_go (most := 5) h (by omega) (by omega)
    obtain ⟨e2, d2⟩ := rnum_go (most := 5) d1 (by omega) (by omega)
    obtain ⟨e3, d3⟩ := rnum_go (most := 5) d2 (by omega) (by omega)
    obtain ⟨e4, d4⟩ := rnum_go (most := 999999) d3 (by omega) (by omega)
    obtain ⟨e5, d5⟩ := rnum_go (most := 999999) d4 (by omega) (by omega)
    obtain ⟨e6, d6⟩ := rnum_go (most := 999999) d5 (by omega) (by omega)
    have d6' := d6
    rw [show sn.length = (sn.map Int.toNat).length by rw [List.length_map], show (sn.map Int.toNat).flatMap vr = vrs (sn.map Int.toNat) from rfl] at d6'
    obtain ⟨e7, d7⟩ := rnodes_go d6' g1 g2
    obtain ⟨e8, d8⟩ := rtext_go (most := 300000) d7 hd (by omega)
    obtain ⟨e9, d9⟩ := rnum_go (most := 1073741824) d8 (by omega) (by omega)
    unfold letF letBody
    rw [e1, bnd_ok, e2, bnd_ok, e3, bnd_ok, e4, bnd_ok, if_neg (by simp), if_neg (by simp), if_neg (by simp), if_neg (by simp), if_pos (by simp), e5, bnd_ok, e6, bnd_ok, e7, bnd_ok, e8, bnd_ok, e9, bnd_ok]
    rw [toNat_cast n3, toNat_cast n5, toNat_cast n7, toNat_cast n15, toNat_cast (by omega : 0 ≤ si), toNat_cast t0, g3]
    simp [Nat.add_assoc, vrs]
end Go.Proofs.YtmgandacmhkndaaDoor
