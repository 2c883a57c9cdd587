/- Where wire.Encode stands: the letter's box, the bytes so far; wire.numbers from there. Conditions: numbers not below 0; so many bytes as there is room. -/
import Derived.Test.YtmgandacmhkndaaDoorEncP
import Derived.Test.YtmgandacmhkndaaDoorWNum
import Derived.Test.YtmgandacmhkndaaDoorWRight
namespace Go.Proofs.YtmgandacmhkndaaDoor
open Go.RowKit
set_option maxRecDepth 100000

theorem bvs_append (a b : List UInt8) : bvs (a ++ b) = bvs a ++ bvs b := List.map_append ..
/-- Bytes are written beside a box. -/
structure ESt (w W : World) (lb : Nat) (t : TypeId) (cs : Array Value) (v : Value) (bs : List UInt8) (N : Nat) : Prop where
  below : Below w.heap.size w W
  box : Blk W lb t cs
  own : OwnB W w.heap.size v bs
  ne : 5 ≠ t
  len : bs.length ≤ N
section
variable {w W W' : World} {lb N : Nat} {t : TypeId} {cs : Array Value} {v v' : Value} {bs bs' : List UInt8}
theorem ESt.alloc (h : ESt w W lb t cs v bs N) (o : Obj) : ESt w (W.alloc o) lb t cs v bs N :=
  ⟨h.below.alloc h.below.size o, h.box.alloc o, own_below h.own ((Below.refl _ _).alloc (Nat.le_refl _) _), h.ne, h.len⟩
theorem ESt.drew (h : ESt w W lb t cs v bs N) : ESt w W.drew lb t cs v bs N := ⟨h.below.drew, h.box, h.own, h.ne, h.len⟩
theorem ESt.drewN (h : ESt w W lb t cs v bs N) (k : Nat) : ESt w (W.drewN k) lb t cs v bs N := ⟨below_drewN h.below k, h.box, h.own, h.ne, h.len⟩
theorem ESt.app (h : ESt w W lb t cs v bs N) (ha : AppB w.heap.size W v W' v' bs') {N' : Nat} (hN : bs'.length ≤ N') : ESt w W' lb t cs v' bs' N' :=
  ⟨h.below.trans (ha.below h.own h.below.size (Nat.le_refl _)), h.box.app h.own ha.grown h.ne, ha.own, h.ne, hN⟩
theorem ESt.appB (h : ESt w W lb t cs v bs N) {ys : List UInt8} (ha : App 5 w.heap.size W v W' v' (bvs bs ++ bvs ys)) {N' : Nat} (hN : N + ys.length ≤ N') : ESt w W' lb t cs v' (bs ++ ys) N' :=
  h.app (by unfold AppB; rw [bvs_append]; exact ha) (by have := h.len; rw [List.length_append]; omega)
theorem ESt.keepInt (h : ESt w W lb t cs v bs N) (hg : W.grownBy W' v.ownBlock) : ∀ g zs, Blk W g 3 zs → Blk W' g 3 zs := fun _ _ hb => hb.app h.own hg (by decide)
theorem ESt.cells (h : ESt w W lb t cs v bs N) : ∀ i, W.cell? ⟨lb, i, none⟩ = cs[i]? := h.box.cells
theorem ESt.rd (h : ESt w W lb t cs v bs N) {A : Option Addr} {xs : List Value} (hr : Rd w A xs) : Rd W A xs := hr.below h.below
theorem ESt.mono (h : ESt w W lb t cs v bs N) {N' : Nat} (hN : N ≤ N') : ESt w W lb t cs v bs N' := ⟨h.below, h.box, h.own, h.ne, Nat.le_trans h.len hN⟩
/-- Another box. -/
theorem ESt.turn (h : ESt w W lb t cs v bs N) {lb' : Nat} {t' : TypeId} {cs' : Array Value} (hb : Blk W lb' t' cs') (hne : 5 ≠ t') : ESt w W lb' t' cs' v bs N := ⟨h.below, hb, h.own, hne, h.len⟩
end
def EncSt (w : World) (lb : Nat) (t : TypeId) (cs : Array Value) (bs : List UInt8) (N : Nat) (W : World) (e : Ending) (w' : World) : Prop := ∃ v', e = .returned v' ∧ ESt w w' lb t cs v' bs N ∧ ∀ g zs, Blk W g 3 zs → Blk w' g 3 zs

theorem nat_ints (zs : List Int) (hz : ∀ z ∈ zs, 0 ≤ z) : (zs.map Int.toNat).map Int.ofNat = zs := by
  induction zs with
  | nil => rfl
  | cons z r ih =>
    have h0 := hz z (List.mem_cons_self ..)
    rw [List.map_cons, List.map_cons, ih fun x hx => hz x (List.mem_cons_of_mem _ hx)]
    congr 1
    exact Int.toNat_of_nonneg h0
theorem Blk.new1 (w : World) (o : Obj) (t : TypeId) (cs : Array Value) : Blk ((w.alloc o).alloc (.cells cs t)) (w.heap.size + 1) t cs := by
  have := Blk.new (w.alloc o) t cs
  rwa [alloc_size] at this
/-- Numbers of a slice that reads. -/
theorem numbers_rd {w W : World} {lb N : Nat} {t : TypeId} {cs : Array Value} {v : Value} {bs : List UInt8} (h : ESt w W lb t cs v bs N) (A : Option Addr) (n c : Nat) (zs : List Int) (hn : n = zs.length)
    (hr : Rd W A (ivs zs)) (hA : ∀ ad, A = some ad → v.ownBlock ≠ some ad.block) (hz : ∀ z ∈ zs, 0 ≤ z ∧ z ≤ 9223372036854775807) (hl : N + 10 * zs.length ≤ 900000000000) :
    Calls Tryd.prog 41 #[v, .slice A n c] W (EncSt w lb t cs (bs ++ vrs (zs.map Int.toNat)) (N + 10 * zs.length) W) := by
  subst hn
  have hm := nat_ints zs fun z h => (hz z h).1
  have h1 := numbers_any w.heap.size v bs A c (zs.map Int.toNat) W h.own h.below.size (by rw [hm]; exact hr) hA
    (by intro n hn; obtain ⟨z, hz', rfl⟩ := List.mem_map.1 hn; have := hz z hz'; omega) (by have := h.len; rw [List.length_map]; omega)
  rw [List.length_map] at h1
  refine h1.mono ?_
  rintro e w' ⟨v', rfl, ha⟩
  refine ⟨v', rfl, h.app ha ?_, fun g zs hb => hb.app h.own ha.grown (by decide)⟩
  have h2 := vrs_len (zs.map Int.toNat) (by intro n hn; obtain ⟨z, hz', rfl⟩ := List.mem_map.1 hn; have := hz z hz'; omega)
  rw [List.length_map] at h2
  have := h.len
  rw [List.length_append]; omega
/-- Numbers that were laid into a new block. -/
theorem numbers_blk {w W : World} {lb N : Nat} {t : TypeId} {cs : Array Value} {v : Value} {bs : List UInt8} (h : ESt w W lb t cs v bs N) (g n c : Nat) (zs : List Int) (hn : n = zs.length)
    (hB : Blk W g 3 (ivs zs).toArray) (hz : ∀ z ∈ zs, 0 ≤ z ∧ z ≤ 9223372036854775807) (hl : N + 10 * zs.length ≤ 900000000000) :
    Calls Tryd.prog 41 #[v, .slice (some ⟨g, 0, none⟩) n c] W (EncSt w lb t cs (bs ++ vrs (zs.map Int.toNat)) (N + 10 * zs.length) W) :=
  numbers_rd h _ n c zs hn (rd_blk hB) (by rintro ad e; injection e with e; subst e; exact own_blk_ne h.own hB (by decide)) hz hl
/-- Numbers of a slice that came in, not empty. -/
theorem numbers_arg {w W : World} {lb N : Nat} {t : TypeId} {cs : Array Value} {v : Value} {bs : List UInt8} (h : ESt w W lb t cs v bs N) (A : Option Addr) (n c : Nat) (zs : List Int) (hn : n = zs.length)
    (hr : Rd w A (ivs zs)) (h0 : 0 < zs.length) (hz : ∀ z ∈ zs, 0 ≤ z ∧ z ≤ 9223372036854775807) (hl : N + 10 * zs.length ≤ 900000000000) :
    Calls Tryd.prog 41 #[v, .slice A n c] W (EncSt w lb t cs (bs ++ vrs (zs.map Int.toNat)) (N + 10 * zs.length) W) := by
  refine numbers_rd h A n c zs hn (h.rd hr) ?_ hz hl
  rintro ad rfl e
  obtain ⟨ad', he, hc⟩ := hr.int h0
  injection he with he; subst he
  have h1 := World.block_lt_of_cell? w _ (hc 0 h0)
  rw [block_of_add] at h1
  have h2 := own_base h.own _ e
  omega
end Go.Proofs.YtmgandacmhkndaaDoor
