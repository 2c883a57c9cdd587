/- Plain laws of the wire: what is read is what is written; what is no letter. No walk. No conditions. -/
import Derived.Test.YtmgandacmhkndaaDoorLaw
namespace Go.Proofs.YtmgandacmhkndaaDoor
set_option linter.unusedSimpArgs false

/-- A part of some bytes: what stands between two places. -/
def Seg (b : List UInt8) (a a' : Nat) (x : List UInt8) : Prop := b.drop a = x ++ b.drop a' ∧ a' = a + x.length ∧ a' ≤ b.length
theorem Seg.trans {b x y : List UInt8} {a a1 a2 : Nat} (h : Seg b a a1 x) (k : Seg b a1 a2 y) : Seg b a a2 (x ++ y) :=
  ⟨by rw [h.1, k.1, List.append_assoc], by rw [k.2.1, h.2.1, List.length_append]; omega, k.2.2⟩
theorem Seg.nil_ {b : List UInt8} {a : Nat} (h : a ≤ b.length) : Seg b a a [] := ⟨rfl, by simp, h⟩
theorem seg_of {b x rest : List UInt8} {a : Nat} (h : b.drop a = x ++ rest) (ha : a ≤ b.length) : Seg b a (a + x.length) x := by
  refine ⟨by rw [drop_app h]; exact h, rfl, ?_⟩
  have := congrArg List.length h
  rw [List.length_drop, List.length_append] at this
  omega
theorem rnum_inv {b : List UInt8} {most a n a' : Nat} (h : rnum b most a = .ok (n, a')) (ha : a ≤ b.length) : Seg b a a' (vr n) ∧ n ≤ most := by
  unfold rnum at h
  split at h
  · cases h
  · rename_i hc
    injection h with h
    simp only [Prod.mk.injEq] at h
    obtain ⟨h1, h2⟩ := h
    obtain ⟨rest, e1, e2, _⟩ := getN_inv (l := b.drop a) (n := n) (k := (getN (b.drop a)).2) (by rw [← h1]) (by omega)
    have hs := seg_of e1 ha
    rw [← e2, h2] at hs
    exact ⟨hs, by omega⟩
theorem rtext_inv {b d : List UInt8} {most a a' : Nat} (h : rtext b most a = .ok (d, a')) (ha : a ≤ b.length) : Seg b a a' (vr d.length ++ d) ∧ d.length ≤ most := by
  unfold rtext at h
  split at h
  · cases h
  · rename_i hc
    injection h with h
    simp only [Prod.mk.injEq] at h
    obtain ⟨h1, h2⟩ := h
    unfold getT at h1 h2 hc
    split at hc
    · simp at hc
    · rename_i hg
      rw [if_neg hg] at h1 h2
      simp only at h1 h2
      obtain ⟨rest, e1, e2, _⟩ := getN_inv (l := b.drop a) (n := (getN (b.drop a)).1) (k := (getN (b.drop a)).2) rfl (by omega)
      have hr : (b.drop a).drop (getN (b.drop a)).2 = rest := by
        have := List.drop_left (l₁ := vr (getN (b.drop a)).1) (l₂ := rest)
        rw [e2]; rw [← e1] at this; exact this
      have hl : d.length = (getN (b.drop a)).1 := by
        rw [← h1, List.length_take, List.length_drop]; omega
      rw [hr] at h1
      have hd : rest = d ++ rest.drop d.length := by
        rw [hl]; conv => lhs; rw [← List.take_append_drop (getN (b.drop a)).1 rest, h1]
      rw [← hl] at e1
      rw [hd, ← List.append_assoc] at e1
      have hs := seg_of e1 ha
      rw [List.length_append, hl, ← e2, h2] at hs
      rw [hl]
      exact ⟨hs, by omega⟩
theorem rnums_inv {b : List UInt8} (k : Nat) : ∀ {a a' : Nat} {l : List Nat}, rnums b 5 k a = .ok (l, a') → a ≤ b.length → Seg b a a' (vrs l) ∧ l.length = k := by
  induction k with
  | zero =>
    intro a a' l h ha
    simp only [rnums] at h
    injection h with h
    simp only [Prod.mk.injEq] at h
    obtain ⟨rfl, rfl⟩ := h
    exact ⟨Seg.nil_ ha, rfl⟩
  | succ k ih =>
    intro a a' l h ha
    rw [rnums] at h
    rcases h1 : rnum b 5 a with p | ⟨n, a1⟩
    · rw [h1] at h; cases h
    · rw [h1] at h
      simp only at h
      obtain ⟨s1, _⟩ := rnum_inv h1 ha
      rcases h2 : rnums b 5 k a1 with p | ⟨r, a2⟩
      · rw [h2] at h; cases h
      · rw [h2] at h
        injection h with h
        simp only [Prod.mk.injEq] at h
        obtain ⟨rfl, rfl⟩ := h
        obtain ⟨s2, e2⟩ := ih h2 s1.2.2
        exact ⟨by have := s1.trans s2; simpa [vrs] using this, by rw [List.length_cons, e2]⟩
theorem rnodes_inv {b : List UInt8} {a a' : Nat} {l : List Nat} (h : rnodes b a = .ok (l, a')) (ha : a ≤ b.length) : Seg b a a' (vr l.length ++ vrs l) := by
  unfold rnodes at h
  rcases h1 : rnum b 5 a with p | ⟨n, a1⟩
  · rw [h1] at h; cases h
  · rw [h1] at h
    simp only at h
    obtain ⟨s1, _⟩ := rnum_inv h1 ha
    obtain ⟨s2, e2⟩ := rnums_inv n h s1.2.2
    rw [e2]
    exact s1.trans s2
theorem bnd_inv {α β : Type} {x : Except Nat (α × Nat)} {f : α → Nat → Except Nat β} {r : β} (h : bnd x f = .ok r) : ∃ v a, x = .ok (v, a) ∧ f v a = .ok r := by
  rcases x with p | ⟨v, a⟩
  · cases h
  · exact ⟨v, a, rfl, h⟩
theorem nat_map (l : List Nat) : (l.map Int.ofNat).map Int.toNat = l := by
  induction l with
  | nil => rfl
  | cons n r ih => simp only [List.map_cons, ih]; rfl
theorem rent_inv {b : List UInt8} {i : Int} {a a' : Nat} {e : Ent} (h : rent b i a = .ok (e, a')) (ha : a ≤ b.length) : Seg b a a' (encEnt e) := by
  unfold rent at h
  obtain ⟨t, a1, h1, h⟩ := bnd_inv h
  obtain ⟨k, a2, h2, h⟩ := bnd_inv h
  obtain ⟨s1, _⟩ := rnum_inv h1 ha
  obtain ⟨s2, hk⟩ := rnum_inv h2 s1.2.2
  unfold entBody at h
  by_cases k1 : k = 1
  · rw [if_pos k1] at h
    obtain ⟨d, a3, h3, h⟩ := bnd_inv h
    injection h with h
    simp only [Prod.mk.injEq] at h
    obtain ⟨rfl, rfl⟩ := h
    obtain ⟨s3, _⟩ := rtext_inv h3 s2.2.2
    have := (s1.trans s2).trans s3
    subst k1
    unfold encEnt
    rw [if_pos (by simp)]
    simpa [vrs] using this
  · rw [if_neg k1] at h
    by_cases k2 : k = 2
    · rw [if_pos k2] at h
      obtain ⟨d, a3, h3, h⟩ := bnd_inv h
      injection h with h
      simp only [Prod.mk.injEq] at h
      obtain ⟨rfl, rfl⟩ := h
      have s3 := rnodes_inv h3 s2.2.2
      have := (s1.trans s2).trans s3
      subst k2
      unfold encEnt
      rw [if_neg (by simp), if_pos (by simp)]
      simp only [nat_map, List.length_map]
      simpa [vrs] using this
    · rw [if_neg k2] at h
      injection h with h
      simp only [Prod.mk.injEq] at h
      obtain ⟨rfl, rfl⟩ := h
      have := s1.trans s2
      unfold encEnt
      rw [if_neg (by simp only; omega), if_neg (by simp only; omega)]
      simpa [vrs] using this
theorem rents_inv {b : List UInt8} (k : Nat) : ∀ {i : Int} {a a' : Nat} {l : List Ent}, rents b i k a = .ok (l, a') → a ≤ b.length → Seg b a a' (l.flatMap encEnt) ∧ l.length = k := by
  induction k with
  | zero =>
    intro i a a' l h ha
    simp only [rents] at h
    injection h with h
    simp only [Prod.mk.injEq] at h
    obtain ⟨rfl, rfl⟩ := h
    exact ⟨Seg.nil_ ha, rfl⟩
  | succ k ih =>
    intro i a a' l h ha
    rw [rents] at h
    obtain ⟨e, a1, h1, h⟩ := bnd_inv h
    obtain ⟨r, a2, h2, h⟩ := bnd_inv h
    injection h with h
    simp only [Prod.mk.injEq] at h
    obtain ⟨rfl, rfl⟩ := h
    have s1 := rent_inv h1 ha
    obtain ⟨s2, e2⟩ := ih h2 s1.2.2
    exact ⟨by have := s1.trans s2; simpa using this, by rw [List.length_cons, e2]⟩
theorem bit_inv {o : Nat} (h : o ≤ 1) : bit1 (((o : Nat) : Int) == 1) = o := by
  have : o = 0 ∨ o = 1 := by omega
  rcases this with rfl | rfl <;> rfl
/-- What is read as a letter stands there as that letter is written. -/
theorem letF_inv {b : List UInt8} {a a' : Nat} {m : Let} (h : letF b a = .ok (m, a')) (ha : a ≤ b.length) : Seg b a a' (encF m) := by
  unfold letF at h
  obtain ⟨k, a1, h1, h⟩ := bnd_inv h
  obtain ⟨f, a2, h2, h⟩ := bnd_inv h
  obtain ⟨t, a3, h3, h⟩ := bnd_inv h
  obtain ⟨tm, a4, h4, h⟩ := bnd_inv h
  obtain ⟨s1, hk⟩ := rnum_inv h1 ha
  obtain ⟨s2, _⟩ := rnum_inv h2 s1.2.2
  obtain ⟨s3, _⟩ := rnum_inv h3 s2.2.2
  obtain ⟨s4, _⟩ := rnum_inv h4 s3.2.2
  have sh := ((s1.trans s2).trans s3).trans s4
  have l4 := s4.2.2
  clear h1 h2 h3 h4 s1 s2 s3 s4
  unfold letBody at h
  by_cases k0 : k = 0
  · rw [if_pos k0] at h; cases h
  rw [if_neg k0] at h
  by_cases k1 : k = 1
  · rw [if_pos k1] at h
    subst k1
    obtain ⟨i, a5, h5, h⟩ := bnd_inv h
    obtain ⟨l, a6, h6, h⟩ := bnd_inv h
    injection h with h
    simp only [Prod.mk.injEq] at h
    obtain ⟨rfl, rfl⟩ := h
    obtain ⟨s5, _⟩ := rnum_inv h5 l4
    obtain ⟨s6, _⟩ := rnum_inv h6 s5.2.2
    have := (sh.trans s5).trans s6
    unfold encF encBody encHead
    rw [if_pos (by simp)]
    simpa [vrs] using this
  rw [if_neg k1] at h
  by_cases k2 : k = 2
  · rw [if_pos k2] at h
    subst k2
    obtain ⟨o, a5, h5, h⟩ := bnd_inv h
    injection h with h
    simp only [Prod.mk.injEq] at h
    obtain ⟨rfl, rfl⟩ := h
    obtain ⟨s5, ho⟩ := rnum_inv h5 l4
    have := sh.trans s5
    unfold encF encBody encHead
    rw [if_neg (by simp), if_pos (by simp)]
    simp only [bit_inv ho]
    simpa [vrs] using this
  rw [if_neg k2] at h
  by_cases k4 : k = 4
  · rw [if_pos k4] at h
    subst k4
    obtain ⟨o, a5, h5, h⟩ := bnd_inv h
    obtain ⟨i, a6, h6, h⟩ := bnd_inv h
    obtain ⟨r, a7, h7, h⟩ := bnd_inv h
    injection h with h
    simp only [Prod.mk.injEq] at h
    obtain ⟨rfl, rfl⟩ := h
    obtain ⟨s5, ho⟩ := rnum_inv h5 l4
    obtain ⟨s6, _⟩ := rnum_inv h6 s5.2.2
    obtain ⟨s7, _⟩ := rnum_inv h7 s6.2.2
    have := ((sh.trans s5).trans s6).trans s7
    unfold encF encBody encHead
    rw [if_neg (by simp), if_neg (by simp), if_pos (by simp)]
    simp only [bit_inv ho]
    simpa [vrs] using this
  rw [if_neg k4] at h
  by_cases k5 : k = 5
  · rw [if_pos k5] at h
    subst k5
    obtain ⟨i, a5, h5, h⟩ := bnd_inv h
    obtain ⟨st, a6, h6, h⟩ := bnd_inv h
    obtain ⟨l, a7, h7, h⟩ := bnd_inv h
    obtain ⟨d, a8, h8, h⟩ := bnd_inv h
    obtain ⟨r, a9, h9, h⟩ := bnd_inv h
    injection h with h
    simp only [Prod.mk.injEq] at h
    obtain ⟨rfl, rfl⟩ := h
    obtain ⟨s5, _⟩ := rnum_inv h5 l4
    obtain ⟨s6, _⟩ := rnum_inv h6 s5.2.2
    have s7 := rnodes_inv h7 s6.2.2
    obtain ⟨s8, _⟩ := rtext_inv h8 s7.2.2
    obtain ⟨s9, _⟩ := rnum_inv h9 s8.2.2
    have := ((((sh.trans s5).trans s6).trans s7).trans s8).trans s9
    unfold encF encBody encHead
    rw [if_neg (by simp), if_neg (by simp), if_neg (by simp), if_pos (by simp)]
    simp only [nat_map, List.length_map]
    simpa [vrs] using this
  rw [if_neg k5] at h
  have k3 : k = 3 := by omega
  subst k3
  obtain ⟨i, a5, h5, h⟩ := bnd_inv h
  obtain ⟨l, a6, h6, h⟩ := bnd_inv h
  obtain ⟨c, a7, h7, h⟩ := bnd_inv h
  obtain ⟨r, a8, h8, h⟩ := bnd_inv h
  obtain ⟨n, a9, h9, h⟩ := bnd_inv h
  obtain ⟨es, a10, h10, h⟩ := bnd_inv h
  injection h with h
  simp only [Prod.mk.injEq] at h
  obtain ⟨rfl, rfl⟩ := h
  obtain ⟨s5, _⟩ := rnum_inv h5 l4
  obtain ⟨s6, _⟩ := rnum_inv h6 s5.2.2
  obtain ⟨s7, _⟩ := rnum_inv h7 s6.2.2
  obtain ⟨s8, _⟩ := rnum_inv h8 s7.2.2
  obtain ⟨s9, _⟩ := rnum_inv h9 s8.2.2
  obtain ⟨s10, el⟩ := rents_inv n h10 s9.2.2
  have := (((((sh.trans s5).trans s6).trans s7).trans s8).trans s9).trans s10
  rw [← el] at this
  unfold encF encBody encHead
  rw [if_neg (by simp), if_neg (by simp), if_neg (by simp), if_neg (by simp)]
  simpa [vrs] using this

/-! What follows for Encode and Decode. -/
theorem dec_enc {m : Let} (hR : rightB m = true) : decF (encF m) = .ok m := by
  have h := letF_enc (b := encF m) (a := 0) (rest := []) hR (by simp)
  unfold decF
  rw [h]
  simp only
  rw [if_neg (by omega), if_pos hR]
theorem dec_inv {b : List UInt8} {m : Let} (h : decF b = .ok m) : rightB m = true ∧ encF m = b := by
  unfold decF at h
  rcases hl : letF b 0 with p | ⟨m', a⟩
  · rw [hl] at h; cases h
  · rw [hl] at h
    simp only at h
    split at h
    · cases h
    · rename_i ha
      split at h
      · rename_i hr
        injection h with h
        subst h
        have hs := letF_inv hl (Nat.zero_le _)
        refine ⟨hr, ?_⟩
        have h1 := hs.1
        rw [List.drop_zero, List.drop_of_length_le (by omega), List.append_nil] at h1
        exact h1.symm
      · cases h
theorem enc_len {m : Let} : 0 < (encF m).length := by
  unfold encF encHead
  have := vr_pos m.kind.toNat
  simp [vrs]; omega
/-- A strict beginning is none. -/
theorem dec_short {m : Let} (hR : rightB m = true) {p q : List UInt8} (h : encF m = p ++ q) (hq : q ≠ []) (m' : Let) : decF p ≠ .ok m' := by
  intro hd
  obtain ⟨hr, he⟩ := dec_inv hd
  have h1 := letF_enc (b := encF m) (a := 0) (rest := []) hR (by simp)
  have h2 := letF_enc (b := encF m) (a := 0) (rest := q) hr (by rw [List.drop_zero, he]; exact h)
  rw [h1] at h2
  injection h2 with h2
  simp only [Prod.mk.injEq] at h2
  have h3 := congrArg List.length h
  rw [List.length_append, ← he] at h3
  have : q.length = 0 := by omega
  exact hq (List.eq_nil_of_length_eq_zero this)
/-- With something behind it is none. -/
theorem dec_more {m : Let} (hR : rightB m = true) (x : UInt8) (m' : Let) : decF (encF m ++ [x]) ≠ .ok m' := by
  have h1 := letF_enc (b := encF m ++ [x]) (a := 0) (rest := [x]) hR (by simp)
  unfold decF
  rw [h1]
  simp only
  rw [if_pos (by simp)]
  intro h; cases h
theorem enc_inj {a b : Let} (ha : rightB a = true) (hb : rightB b = true) : encF a = encF b ↔ a = b := by
  constructor
  · intro h
    have h1 := dec_enc ha
    rw [h, dec_enc hb] at h1
    injection h1 with h1
    exact h1.symm
  · rintro rfl; rfl
end Go.Proofs.YtmgandacmhkndaaDoor
