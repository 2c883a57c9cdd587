/- wire's reader: number, text: their walks; what they read as plain functions. Conditions: the reader's block and bytes are known. -/
import Derived.Test.YtmgandacmhkndaaDoorGetT
import Derived.Deep.QuietTactic
import Derived.BigQuiet
namespace Go.Proofs.YtmgandacmhkndaaDoor
open Go.RowKit
set_option maxRecDepth 100000
set_option linter.unusedSimpArgs false

/-- A number read at a place, at most so much; an error is where reading gives up. -/
def rnum (b : List UInt8) (most : Nat) (at_ : Nat) : Except Nat (Nat × Nat) :=
  if (getN (b.drop at_)).2 = 0 ∨ most < (getN (b.drop at_)).1 then .error at_ else .ok ((getN (b.drop at_)).1, at_ + (getN (b.drop at_)).2)
def rtext (b : List UInt8) (most : Nat) (at_ : Nat) : Except Nat (List UInt8 × Nat) :=
  if (getT (b.drop at_) most).2 = 0 then .error at_ else .ok ((getT (b.drop at_) most).1, at_ + (getT (b.drop at_) most).2)
theorem rnum_ok {b : List UInt8} {most a n a' : Nat} (h : rnum b most a = .ok (n, a')) (ha : a ≤ b.length) : n ≤ most ∧ a < a' ∧ a' ≤ b.length := by
  unfold rnum at h
  split at h
  · cases h
  · injection h with h; simp only [Prod.mk.injEq] at h
    have := (getN_le (b.drop a)).1
    rw [List.length_drop] at this
    omega

structure Rdr (w : World) (g : Nat) (b : List UInt8) (at_ : Nat) (A : Option Addr) (c : Nat) : Prop where
  blk : Blk w g 88 #[.slice A b.length c, .int .i64 at_]
  rd : Rd w A (bvs b)
  ne : ∀ ad, A = some ad → ad.block ≠ g
  hc : b.length ≤ c
  hl : c ≤ 9223372036854775807
  hat : at_ ≤ b.length
theorem Rdr.lt {w : World} {g : Nat} {b : List UInt8} {at_ : Nat} {A : Option Addr} {c : Nat} (h : Rdr w g b at_ A c) {ad : Addr} (hA : A = some ad) (hb : b ≠ []) : ad.block < w.heap.size := by
  obtain ⟨ad', e, hc⟩ := h.rd.byte (k := 0) (List.length_pos_iff.2 hb)
  obtain rfl : ad = ad' := by rw [hA] at e; injection e
  have := World.block_lt_of_cell? w _ (hc 0 (List.length_pos_iff.2 hb))
  rwa [block_of_add] at this
theorem Rdr.grown {w w' : World} {g : Nat} {b : List UInt8} {at_ : Nat} {A : Option Addr} {c : Nat} (h : Rdr w g b at_ A c) {row : Option Nat} (hg : w.grownBy w' row) (h1 : some g ≠ row) (h2 : ∀ ad, A = some ad → b ≠ [] → some ad.block ≠ row) : Rdr w' g b at_ A c := by
  refine ⟨h.blk.grown hg h1, ?_, h.ne, h.hc, h.hl, h.hat⟩
  rcases h.rd with hr | ⟨ad, rfl, hr⟩
  · exact .inl hr
  · exact .inr ⟨ad, rfl, fun j u hu => hg.cell (hr j u hu) (by rw [block_of_add]; exact h2 ad rfl (by rintro rfl; simp at hu))⟩
theorem grown_new {w a b : World} {row row' : Option Nat} (h : w.grownBy a row) (k : a.grownBy b row') (hr : ∀ i, row' = some i → w.heap.size ≤ i) : w.grownBy b row :=
  ⟨k.os.trans h.os, k.tape.trans h.tape, k.output.trans h.output, Nat.le_trans h.size k.size, fun i hi hne => (k.block i (Nat.lt_of_lt_of_le hi h.size) (fun e => by have := hr i e.symm; omega)).trans (h.block i hi hne)⟩
theorem Rdr.own_step {w wr w3 : World} {g : Nat} {b : List UInt8} {at_ at0 : Nat} {A : Option Addr} {c base : Nat} {e : TypeId} {size n : Nat} {v : Value} {xs : List Value} (h0 : Rdr w g b at0 A c) (h : Rdr wr g b at_ A c) (ho : wr.ownsRow base e size v n xs) (hb : w.heap.size ≤ base)
    (he : e ≠ 88) (hg : wr.grownBy w3 v.ownBlock) : Rdr w3 g b at_ A c :=
  h.grown hg (fun e1 => own_blk_ne ho h.blk he e1.symm) fun ad hA hne e1 => by have := h0.lt hA hne; have := own_base ho _ e1.symm; omega
theorem Rdr.keep {w w' : World} {g : Nat} {b : List UInt8} {at_ : Nat} {A : Option Addr} {c : Nat} (h : Rdr w g b at_ A c) (hb : Below w.heap.size w w') : Rdr w' g b at_ A c :=
  ⟨h.blk.keep hb, h.rd.below hb, h.ne, h.hc, h.hl, h.hat⟩
/-- The step of a reader. -/
theorem Rdr.step {w : World} {g : Nat} {b : List UInt8} {at_ : Nat} {A : Option Addr} {c : Nat} (h : Rdr w g b at_ A c) (k a' : Nat) (ha : a' ≤ b.length) :
    w.grownBy ((w.drewN k).setCell ⟨g, 1, none⟩ (.int .i64 a')) (some g) ∧ Rdr ((w.drewN k).setCell ⟨g, 1, none⟩ (.int .i64 a')) g b a' A c := by
  have hgb : w.grownBy ((w.drewN k).setCell ⟨g, 1, none⟩ (.int .i64 a')) (some g) :=
    ⟨rfl, rfl, rfl, by simp [World.setCell, World.drewN], fun i _ hne => Below.heap_setCell (w.drewN k) _ _ i (fun e => hne (by rw [e]))⟩
  refine ⟨hgb, ⟨?_, ?_, h.ne, h.hc, h.hl, ha⟩⟩
  · have := (h.blk.drewN k).set_ 1 (.int .i64 a')
    exact this
  · rcases h.rd with hr | ⟨ad, rfl, hr⟩
    · exact .inl hr
    · exact .inr ⟨ad, rfl, fun j u hu => hgb.cell (hr j u hu) (by rw [block_of_add]; intro e; injection e with e; exact h.ne ad rfl e)⟩
theorem grown_drewN (w : World) (k : Nat) (row : Option Nat) : w.grownBy (w.drewN k) row := ⟨rfl, rfl, rfl, Nat.le_refl _, fun _ _ _ => rfl⟩
theorem Rdr.drewN {w : World} {g : Nat} {b : List UInt8} {at_ : Nat} {A : Option Addr} {c : Nat} (h : Rdr w g b at_ A c) (k : Nat) : Rdr (w.drewN k) g b at_ A c := ⟨h.blk, h.rd, h.ne, h.hc, h.hl, h.hat⟩

/-- What a call of number leaves. -/
def NumPost (b : List UInt8) (most at_ g : Nat) (A : Option Addr) (c : Nat) (w : World) (e : Ending) (w' : World) : Prop :=
  w.grownBy w' (some g) ∧ ((∃ n a', rnum b most at_ = .ok (n, a') ∧ e = .returned (.int .i64 n) ∧ Rdr w' g b a' A c) ∨
    (rnum b most at_ = .error at_ ∧ e = .panicked [{ v := .iface 83 (.int .i64 at_), recovered := false }] ∧ Rdr w' g b at_ A c))

set_option maxHeartbeats 4000000 in
theorem num_any (b : List UInt8) (most at_ g : Nat) (A : Option Addr) (c : Nat) (w : World) (h : Rdr w g b at_ A c) (hm : most ≤ 9223372036854775807) :
    Calls Tryd.prog 68 #[.pointer (some ⟨g, 0, none⟩), .int .i64 most] w (NumPost b most at_ g A c w) := by
  have c0 : w.cell? ⟨g, 0, none⟩ = some (.slice A b.length c) := h.blk.cell 0
  have c1 : w.cell? ⟨g, 1, none⟩ = some (.int .i64 at_) := h.blk.cell 1
  have hfr := h.blk.frozen 1
  have hrc := h.rd.cut (k := at_) (cap := c) (by simpa using h.hc)
  have hat := h.hat
  have hc := h.hc
  have hl := h.hl
  have HH := Lib.hid h
  clear h
  rw [← List.map_drop] at hrc
  have hrd := hrc
  have hG : ∀ k : Nat, Calls Tryd.prog 22 #[.slice (if c = at_ then A else A.map (·.add at_)) (b.length - at_) (c - at_)] (w.drewN k) fun e w' => e = .returned (.tuple #[.int .u64 ((getN (b.drop at_)).1 : Int), .int .i64 ((getN (b.drop at_)).2 : Int)]) ∧ w' = w.drewN k := by
    intro k
    have hgn := getN_any _ (c - at_) (b.drop at_) (w.drewN k) (hrd.drewN k) (by rw [List.length_drop]; omega) (by omega)
    rw [List.length_drop] at hgn
    exact hgn.mono fun _ _ ⟨he, hw⟩ => ⟨he, hw.symm⟩
  have hgl := getN_le (b.drop at_)
  rw [List.length_drop] at hgl
  have HN : Hid (∀ n k, n = (getN (b.drop at_)).1 → k = (getN (b.drop at_)).2 → rnum b most at_ = if k = 0 ∨ most < n then .error at_ else .ok (n, at_ + k)) := by
    rintro n k rfl rfl; rfl
  obtain ⟨n, hn⟩ : ∃ n, n = (getN (b.drop at_)).1 := ⟨_, rfl⟩
  obtain ⟨k, hk⟩ : ∃ k, k = (getN (b.drop at_)).2 := ⟨_, rfl⟩
  have HR := Lib.hid (HN.out n k hn hk)
  rw [← hn, ← hk] at hG hgl
  have HQ := Lib.hid (show at_ + k ≤ b.length by omega)
  clear hrc hrd hn hk HN
  by_cases hck : c = at_
  · rw [if_pos hck] at hG
    subst hck
    rw [show b.length - c = 0 by omega, show c - c = 0 by omega] at hG
    have HG := Lib.hid hG
    clear hG
    go_enter Tryd.func68, Tryd.ntmps68
    go_wp2_with fail
    go_quiet ((go_at_call 22; with_reducible exact Calls.quiet_of_same (HG.out _)))
    go_wp2_with fail
    all_goals first
      | (refine ⟨rfl, ?_⟩
         have hr := HR.out
         go_light
         rw [if_pos (by (try simp only [beq_iff_eq] at *); omega)] at hr
         exact ⟨grown_drewN _ _ _, .inr ⟨hr, rfl, HH.out.drewN _⟩⟩)
      | (go_ret
         have hr := HR.out
         have hq := HQ.out
         go_light
         rw [if_neg (by (try simp only [beq_iff_eq, beq_eq_false_iff_ne, ne_eq] at *); omega)] at hr
         exact ⟨(HH.out.step _ _ hq).1, .inl ⟨_, _, hr, rfl, (HH.out.step _ _ hq).2⟩⟩)
  · rw [if_neg hck] at hG
    have HG := Lib.hid hG
    clear hG
    go_enter Tryd.func68, Tryd.ntmps68
    go_wp2_with fail
    go_quiet ((go_at_call 22; with_reducible exact Calls.quiet_of_same (HG.out _)))
    go_wp2_with fail
    all_goals first
      | (refine ⟨rfl, ?_⟩
         have hr := HR.out
         go_light
         rw [if_pos (by (try simp only [beq_iff_eq] at *); omega)] at hr
         exact ⟨grown_drewN _ _ _, .inr ⟨hr, rfl, HH.out.drewN _⟩⟩)
      | (go_ret
         have hr := HR.out
         have hq := HQ.out
         go_light
         rw [if_neg (by (try simp only [beq_iff_eq, beq_eq_false_iff_ne, ne_eq] at *); omega)] at hr
         exact ⟨(HH.out.step _ _ hq).1, .inl ⟨_, _, hr, rfl, (HH.out.step _ _ hq).2⟩⟩)
end Go.Proofs.YtmgandacmhkndaaDoor
