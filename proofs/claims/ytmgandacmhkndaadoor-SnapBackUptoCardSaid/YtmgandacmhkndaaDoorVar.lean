/- Numbers in groups of seven bits, as lists of bytes: vr writes, getN reads; they are each other's inverse. Plain lists, no program. No conditions. -/
import Derived.PlainAid
namespace Go.Proofs.YtmgandacmhkndaaDoor

def vr (n : Nat) : List UInt8 := if n < 128 then [UInt8.ofNat n] else UInt8.ofNat (n % 128 + 128) :: vr (n / 128)
termination_by n
decreasing_by omega
theorem vr_small {n : Nat} (h : n < 128) : vr n = [UInt8.ofNat n] := by rw [vr, if_pos h]
theorem vr_big {n : Nat} (h : ¬ n < 128) : vr n = UInt8.ofNat (n % 128 + 128) :: vr (n / 128) := by rw [vr, if_neg h]
theorem vr_pos (n : Nat) : 1 ≤ (vr n).length := by
  by_cases h : n < 128
  · rw [vr_small h]; simp
  · rw [vr_big h]; simp
theorem vr_len (k : Nat) : ∀ n, n < 128 ^ (k + 1) → (vr n).length ≤ k + 1 := by
  induction k with
  | zero => intro n h; rw [vr_small (by simpa using h)]; simp
  | succ k ih =>
    intro n h
    by_cases hs : n < 128
    · rw [vr_small hs]; simp
    · rw [vr_big hs, List.length_cons]
      have := ih (n / 128) (by rw [Nat.div_lt_iff_lt_mul (by omega)]; rw [Nat.pow_succ] at h; exact h)
      omega
theorem vr_len64 {n : Nat} (h : n < 18446744073709551616) : (vr n).length ≤ 10 := vr_len 9 n (Nat.lt_of_lt_of_le h (by decide))

/-- What GetNumber reads: behind k bytes that gave acc. -/
def getFrom : Nat → Nat → List UInt8 → Nat × Nat
  | _, _, [] => (0, 0)
  | k, acc, c :: r =>
    if k = 10 then (0, 0)
    else if (k = 9 ∧ 1 < c.toNat) ∨ (0 < k ∧ c.toNat = 0) then (0, 0)
    else if c.toNat < 128 then (acc + c.toNat % 128 * 128 ^ k, k + 1)
    else getFrom (k + 1) (acc + c.toNat % 128 * 128 ^ k) r
def getN (l : List UInt8) : Nat × Nat := getFrom 0 0 l

theorem toNat_of {n : Nat} (h : n < 256) : (UInt8.ofNat n).toNat = n := by simp; omega

theorem getFrom_vr (k : Nat) : ∀ (acc n : Nat) (rest : List UInt8), k ≤ 9 → n * 128 ^ k < 18446744073709551616 → (k = 0 ∨ 0 < n) →
    getFrom k acc (vr n ++ rest) = (acc + n * 128 ^ k, k + (vr n).length) := by
  suffices H : ∀ d k, k + d = 9 → ∀ (acc n : Nat) (rest : List UInt8), n * 128 ^ k < 18446744073709551616 → (k = 0 ∨ 0 < n) →
      getFrom k acc (vr n ++ rest) = (acc + n * 128 ^ k, k + (vr n).length) by
    intro acc n rest hk hn hp
    exact H (9 - k) k (by omega) acc n rest hn hp
  intro d
  induction d with
  | zero =>
    intro k hk acc n rest hn hp
    obtain rfl : k = 9 := by omega
    have hn2 : n < 2 := by
      have : n * 128 ^ 9 < 2 * 128 ^ 9 := by simpa using hn
      omega
    rw [vr_small (by omega)]
    have ht : (UInt8.ofNat n).toNat = n := toNat_of (by omega)
    simp only [List.cons_append, List.nil_append, getFrom, ht]
    rw [if_neg (by omega), if_neg (by omega), if_pos (by omega), Nat.mod_eq_of_lt (by omega)]
    simp
  | succ d ih =>
    intro k hk acc n rest hn hp
    by_cases hs : n < 128
    · rw [vr_small hs]
      have ht : (UInt8.ofNat n).toNat = n := toNat_of (by omega)
      simp only [List.cons_append, List.nil_append, getFrom, ht]
      rw [if_neg (by omega), if_neg (by omega), if_pos (by omega), Nat.mod_eq_of_lt (by omega)]
      simp
    · rw [vr_big hs]
      have ht : (UInt8.ofNat (n % 128 + 128)).toNat = n % 128 + 128 := toNat_of (by omega)
      simp only [List.cons_append, getFrom, ht]
      rw [if_neg (by omega), if_neg (by omega), if_neg (by omega)]
      have he : n / 128 * 128 ^ (k + 1) = n / 128 * 128 * 128 ^ k := by rw [Nat.pow_succ, Nat.mul_assoc, Nat.mul_comm 128]
      have hle : n / 128 * 128 * 128 ^ k ≤ n * 128 ^ k := Nat.mul_le_mul_right _ (by omega)
      rw [ih (k + 1) (by omega) _ (n / 128) rest (by omega) (.inr (by omega))]
      have h1 : (n % 128 + 128) % 128 = n % 128 := by omega
      rw [h1, he]
      refine Prod.ext ?_ (by simp; omega)
      simp only
      rw [Nat.add_assoc, ← Nat.add_mul]
      congr 2
      omega
theorem getN_vr {n : Nat} (h : n < 18446744073709551616) (rest : List UInt8) : getN (vr n ++ rest) = (n, (vr n).length) := by
  have := getFrom_vr 0 0 n rest (by omega) (by simpa using h) (.inl rfl)
  simpa [getN] using this

/-! What is read is what stands there. -/
theorem top_of (k : Nat) (hk : k ≤ 8) : 18446744073709551616 = 128 ^ (k + 1) * 2 ^ (64 - 7 * (k + 1)) := by
  have h : (128 : Nat) = 2 ^ 7 := rfl
  rw [h, ← Nat.pow_mul, ← Nat.pow_add, show 7 * (k + 1) + (64 - 7 * (k + 1)) = 64 by omega]
theorem top_step {k c n : Nat} (hk : k ≤ 8) (hn : n * 128 ^ (k + 1) < 18446744073709551616) : (c % 128 + 128 * n) * 128 ^ k < 18446744073709551616 := by
  have hp : 0 < 128 ^ (k + 1) := Nat.pow_pos (by omega)
  rw [top_of k hk, Nat.mul_comm] at hn
  have h1 : n + 1 ≤ 2 ^ (64 - 7 * (k + 1)) := Nat.lt_of_mul_lt_mul_left hn
  have h2 : (n + 1) * 128 ^ (k + 1) ≤ 18446744073709551616 := by
    rw [top_of k hk, Nat.mul_comm]; exact Nat.mul_le_mul_left _ h1
  have h3 : (c % 128 + 128 * n) * 128 ^ k < (n + 1) * 128 ^ (k + 1) := by
    rw [Nat.pow_succ, Nat.mul_comm (128 ^ k) 128, ← Nat.mul_assoc]
    exact Nat.mul_lt_mul_of_pos_right (by omega) (Nat.pow_pos (by omega))
  exact Nat.lt_of_lt_of_le h3 h2
theorem top_byte {k c : Nat} (hk : k ≤ 9) (hc : c < 128) (h9 : k = 9 → c ≤ 1) : c * 128 ^ k < 18446744073709551616 := by
  by_cases h : k = 9
  · subst h
    exact Nat.lt_of_le_of_lt (Nat.mul_le_mul_right _ (h9 rfl)) (by decide)
  · have := top_step (k := k) (c := c) (n := 0) (by omega) (by simp)
    rwa [Nat.mod_eq_of_lt hc, Nat.mul_zero, Nat.add_zero] at this
theorem getFrom_inv (l : List UInt8) : ∀ (k acc m q : Nat), k ≤ 10 → getFrom k acc l = (m, q) → 0 < q →
    ∃ n rest, l = vr n ++ rest ∧ m = acc + n * 128 ^ k ∧ q = k + (vr n).length ∧ (0 < k → 0 < n) ∧ k ≤ 9 ∧ n * 128 ^ k < 18446744073709551616 := by
  induction l with
  | nil => intro k acc m q _ h hq; simp [getFrom] at h; omega
  | cons c r ih =>
    intro k acc m q hk h hq
    have hc : c.toNat < 256 := UInt8.toNat_lt c
    simp only [getFrom] at h
    split at h
    · simp at h; omega
    · rename_i h10
      have hk9 : k ≤ 9 := by omega
      split at h
      · simp at h; omega
      · rename_i hbad
        split at h
        · rename_i hs
          simp only [Prod.mk.injEq] at h
          obtain ⟨rfl, rfl⟩ := h
          refine ⟨c.toNat, r, by rw [vr_small hs]; simp, by rw [Nat.mod_eq_of_lt hs], by rw [vr_small hs]; simp, fun hk => by omega, hk9, ?_⟩
          exact top_byte hk9 hs (by omega)
        · rename_i hs
          obtain ⟨n, rest, rfl, rfl, rfl, hp, hk9', hn⟩ := ih (k + 1) _ m q (by omega) h hq
          have hp' := hp (by omega)
          have hv : vr (c.toNat % 128 + 128 * n) = c :: vr n := by
            rw [vr_big (by omega)]
            have h1 : (c.toNat % 128 + 128 * n) % 128 + 128 = c.toNat := by omega
            have h2 : (c.toNat % 128 + 128 * n) / 128 = n := by omega
            rw [h1, h2]; simp
          refine ⟨c.toNat % 128 + 128 * n, rest, by rw [hv]; rfl, ?_, by rw [hv]; simp; omega, fun _ => by omega, by omega, ?_⟩
          · rw [Nat.pow_succ, Nat.add_mul, Nat.mul_comm 128 n]; simp only [Nat.mul_assoc, Nat.mul_comm 128, Nat.add_assoc]
          · exact top_step (by omega) hn
theorem getN_inv {l : List UInt8} {n k : Nat} (h : getN l = (n, k)) (hk : 0 < k) : ∃ rest, l = vr n ++ rest ∧ k = (vr n).length ∧ n < 18446744073709551616 := by
  obtain ⟨m, rest, h1, h2, h3, _, _, h4⟩ := getFrom_inv l 0 0 n k (by omega) h hk
  obtain rfl : n = m := by omega
  exact ⟨rest, h1, by omega, by omega⟩
theorem getN_none {l : List UInt8} (h : (getN l).2 = 0) : getN l = (0, 0) := by
  suffices H : ∀ (l : List UInt8) (k acc : Nat), (getFrom k acc l).2 = 0 → getFrom k acc l = (0, 0) from H l 0 0 h
  intro l
  induction l with
  | nil => intro k acc _; rfl
  | cons c r ih =>
    intro k acc
    simp only [getFrom]
    split
    · intro _; rfl
    · split
      · intro _; rfl
      · split
        · intro h; simp at h
        · exact ih _ _
theorem getN_le (l : List UInt8) : (getN l).2 ≤ l.length ∧ (getN l).2 ≤ 10 ∧ (getN l).1 < 18446744073709551616 := by
  rcases Nat.eq_zero_or_pos (getN l).2 with h | h
  · rw [getN_none h]; simp
  · obtain ⟨rest, h1, h2, h3⟩ := getN_inv (n := (getN l).1) (k := (getN l).2) rfl h
    have h4 := vr_len64 h3
    refine ⟨?_, by omega, h3⟩
    have := congrArg List.length h1
    rw [List.length_append] at this
    omega
/-- One text of numbers begins no other's. -/
theorem vr_inj {a b : Nat} (ha : a < 18446744073709551616) (hb : b < 18446744073709551616) {x y : List UInt8} (h : vr a ++ x = vr b ++ y) : a = b ∧ x = y := by
  have h1 := getN_vr ha x
  rw [h, getN_vr hb y] at h1
  simp only [Prod.mk.injEq] at h1
  obtain ⟨rfl, _⟩ := h1
  exact ⟨rfl, List.append_cancel_left h⟩
/-- A beginning of a number's bytes is none. -/
theorem getN_short {n : Nat} (hn : n < 18446744073709551616) {l : List UInt8} {rest : List UInt8} (h : vr n = l ++ rest) (hr : rest ≠ []) : (getN l).2 = 0 := by
  rcases Nat.eq_zero_or_pos (getN l).2 with h0 | h0
  · exact h0
  · obtain ⟨r2, h1, h2, h3⟩ := getN_inv (n := (getN l).1) (k := (getN l).2) rfl h0
    have h5 := getN_vr hn []
    rw [List.append_nil, h, h1, List.append_assoc, getN_vr h3] at h5
    simp only [Prod.mk.injEq] at h5
    obtain ⟨h6, h7⟩ := h5
    have h8 := congrArg List.length h
    rw [List.length_append] at h8
    have h9 := congrArg List.length h1
    rw [List.length_append] at h9
    have : rest.length = 0 := by rw [h6] at h9; omega
    exact absurd (List.eq_nil_of_length_eq_zero this) hr
end Go.Proofs.YtmgandacmhkndaaDoor
