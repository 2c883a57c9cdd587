/- wire's reader: letter: its walk. Conditions: the reader's block and bytes are known. -/
import Derived.Test.YtmgandacmhkndaaDoorLetP
import Derived.Deep.DeepCutAuto
import Derived.Deep.CutBlock
import Derived.Deep.RegionHeld2
import Derived.Laws.Rows
namespace Go.Proofs.YtmgandacmhkndaaDoor
open Go.RowKit
set_option maxRecDepth 100000
set_option linter.unusedSimpArgs false

theorem num_term (b : List UInt8) (at_ g : Nat) (A : Option Addr) (c : Nat) (w : World) (h : Rdr w g b at_ A c) :
    Calls Tryd.prog 68 #[.pointer (some ⟨g, 0, none⟩), .int .i64 999999] w (NumPost b 999999 at_ g A c w) := num_any b 999999 at_ g A c w h (by decide)
theorem num_kind (b : List UInt8) (at_ g : Nat) (A : Option Addr) (c : Nat) (w : World) (h : Rdr w g b at_ A c) :
    Calls Tryd.prog 68 #[.pointer (some ⟨g, 0, none⟩), .int .i64 2] w (NumPost b 2 at_ g A c w) := num_any b 2 at_ g A c w h (by decide)
theorem set5_cell {W : World} {eb b3 i : Nat} {v0 v1 v2 v3 v4 u : Value} (hne : eb ≠ b3) (h : W.cell? ⟨b3, i, none⟩ = some u) :
    (((((W.setCell ⟨eb, 0, none⟩ v0).setCell ⟨eb, 1, none⟩ v1).setCell ⟨eb, 2, none⟩ v2).setCell ⟨eb, 3, none⟩ v3).setCell ⟨eb, 4, none⟩ v4).cell? ⟨b3, i, none⟩ = some u := by
  rw [World.cell?_setCell_far _ _ _ _ hne, World.cell?_setCell_far _ _ _ _ hne, World.cell?_setCell_far _ _ _ _ hne, World.cell?_setCell_far _ _ _ _ hne, World.cell?_setCell_far _ _ _ _ hne]
  exact h
theorem bnd_cons {β : Type} (x : Except Nat (Ent × Nat)) (y : Nat → Except Nat (List Ent × Nat)) (f : List Ent → Nat → Except Nat β) :
    bnd (bnd x fun e a => bnd (y a) fun l a => .ok (e :: l, a)) f = bnd x fun e a => bnd (y a) fun l a => f (e :: l) a := by
  rcases x with p | ⟨e, a⟩
  · rfl
  · simp only [bnd_ok]
    rcases y a with p | ⟨l, a2⟩ <;> rfl
theorem info_entry : (Tryd.prog.info? 45).map (fun i => (i.zero, i.size, i.bytes)) = some (some (.agg #[.int .i64 0, .int .i64 0, .int .i64 0, .slice none 0 0, .slice none 0 0]), 5, 72) := by kernel_rfl
theorem blk_news {w : World} {g : Nat} {t : TypeId} {xs : List Value} (h : Blk w g t xs.toArray) : ∀ j u, xs[j]? = some u → w.cell? ((⟨g, 0, none⟩ : Addr).add j) = some u :=
  fun j u hu => by rw [add_lit, h.cell j]; simpa using hu
theorem one_ecell (p : Ent × EM) : ∀ u ∈ ecell p, u.oneCell' = true := by
  intro u hu
  simp only [ecell, List.mem_cons, List.not_mem_nil, or_false] at hu
  rcases hu with rfl | rfl | rfl | rfl | rfl <;> rfl
/-- Where letter stands: the reader, and the letter that is being read. -/
structure LSt (w W : World) (g b3 : Nat) (b : List UInt8) (a : Nat) (A : Option Addr) (c : Nat) (cs : Array Value) : Prop where
  grown : w.grownBy W (some g)
  rdr : Rdr W g b a A c
  box2 : ∃ zs, Blk W w.heap.size 28 zs ∧ zs.size = 14
  box3 : Blk W b3 28 cs
  lo : w.heap.size < b3
  gl : g < w.heap.size
section
variable {w W W' : World} {g b3 a : Nat} {b : List UInt8} {A : Option Addr} {c : Nat} {cs : Array Value}
theorem LSt.num (h : LSt w W g b3 b a A c cs) (hg : W.grownBy W' (some g)) {a' : Nat} (hr : Rdr W' g b a' A c) : LSt w W' g b3 b a' A c cs :=
  ⟨grown_trans h.grown hg, hr, let ⟨zs, hz, hs⟩ := h.box2; ⟨zs, hz.grown hg (by intro e; injection e with e; have := h.gl; omega), hs⟩,
    h.box3.grown hg (by intro e; injection e with e; have := h.gl; have := h.lo; omega), h.lo, h.gl⟩
theorem grown_set (W : World) (p : Addr) (u : Value) : W.grownBy (W.setCell p u) (some p.block) :=
  ⟨rfl, rfl, rfl, by simp [World.setCell], fun i _ hne => Below.heap_setCell W p u i (fun e => hne (by rw [e]))⟩
theorem LSt.row (h0 : Rdr w g b a A c) {a1 : Nat} (h : LSt w W g b3 b a1 A c cs) {row : Option Nat} (hg : W.grownBy W' row) (hr : ∀ i, row = some i → w.heap.size < i ∧ i ≠ b3) : LSt w W' g b3 b a1 A c cs :=
  ⟨grown_new h.grown hg fun i e => by have := hr i e; omega, h.rdr.grown hg (fun e => by have := hr _ e.symm; have := h.gl; omega) (fun ad hA hne e => by have := h0.lt hA hne; have := hr _ e.symm; omega),
    let ⟨zs, hz, hs⟩ := h.box2; ⟨zs, hz.grown hg (fun e => by have := hr _ e.symm; omega), hs⟩, h.box3.grown hg (fun e => (hr _ e.symm).2 rfl), h.lo, h.gl⟩
theorem LSt.set_ (h0 : Rdr w g b a A c) {a1 : Nat} (h : LSt w W g b3 b a1 A c cs) (i : Nat) (u : Value) : LSt w (W.setCell ⟨b3, i, none⟩ u) g b3 b a1 A c (cs.setIfInBounds i u) := by
  have hg := grown_set W ⟨b3, i, none⟩ u
  exact ⟨grown_new h.grown hg fun j e => by injection e with e; have := h.lo; subst e; simp; omega, h.rdr.grown hg (fun e => by injection e with e; have := h.gl; have := h.lo; simp at e; omega)
      (fun ad hA hne e => by injection e with e; have := h0.lt hA hne; have := h.lo; simp at e; omega),
    let ⟨zs, hz, hs⟩ := h.box2; ⟨zs, hz.grown hg (by intro e; injection e with e; have := h.lo; simp at e; omega), hs⟩, h.box3.set_ i u, h.lo, h.gl⟩
theorem LSt.alloc (h0 : Rdr w g b a A c) {a1 : Nat} (h : LSt w W g b3 b a1 A c cs) (o : Obj) : LSt w (W.alloc o) g b3 b a1 A c cs :=
  h.row h0 (World.grownBy_alloc W o none) (fun i e => by cases e)
theorem LSt.newset (h0 : Rdr w g b a A c) {a1 : Nat} (h : LSt w W g b3 b a1 A c cs) {eb : Nat} (he : w.heap.size < eb) (hne : eb ≠ b3) (i : Nat) (u : Value) : LSt w (W.setCell ⟨eb, i, none⟩ u) g b3 b a1 A c cs :=
  h.row h0 (grown_set W ⟨eb, i, none⟩ u) (fun j e => by injection e with e; subst e; exact ⟨he, hne⟩)
theorem Rdr.drew {at_ : Nat} (h : Rdr W g b at_ A c) : Rdr W.drew g b at_ A c := ⟨h.blk, h.rd, h.ne, h.hc, h.hl, h.hat⟩
theorem LSt.drew (h : LSt w W g b3 b a A c cs) : LSt w W.drew g b3 b a A c cs :=
  ⟨⟨h.grown.os, h.grown.tape, h.grown.output, h.grown.size, h.grown.block⟩, h.rdr.drew, h.box2, h.box3, h.lo, h.gl⟩
end
/-- Only the reader and the letter have turned. -/
def Only (W W' : World) (g b3 : Nat) : Prop := W.heap.size ≤ W'.heap.size ∧ ∀ i, i < W.heap.size → i ≠ g → i ≠ b3 → W'.heap[i]? = W.heap[i]?
theorem Only.trans {W W1 W2 : World} {g b3 : Nat} (h : Only W W1 g b3) (k : Only W1 W2 g b3) : Only W W2 g b3 :=
  ⟨Nat.le_trans h.1 k.1, fun i hi h1 h2 => (k.2 i (Nat.lt_of_lt_of_le hi h.1) h1 h2).trans (h.2 i hi h1 h2)⟩
theorem only_grown {W W' : World} {g : Nat} (h : W.grownBy W' (some g)) (b3 : Nat) : Only W W' g b3 := ⟨h.size, fun i hi h1 _ => h.block i hi (fun e => by injection e with e; exact h1 e)⟩
theorem only_set (W : World) (b3 i : Nat) (u : Value) (g : Nat) : Only W (W.setCell ⟨b3, i, none⟩ u) g b3 := ⟨by simp [World.setCell], fun j _ _ h2 => Below.heap_setCell W _ u j h2⟩
theorem own_only {W W' : World} {g b3 : Nat} {t1 t2 : TypeId} {cs1 cs2 : Array Value} (h1 : Blk W g t1 cs1) (h2 : Blk W b3 t2 cs2) (h : Only W W' g b3) {base : Nat} {e : TypeId} {size n : Nat} {v : Value} {xs : List Value}
    (ho : W.ownsRow base e size v n xs) (n1 : e ≠ t1) (n2 : e ≠ t2) : W'.ownsRow base e size v n xs := by
  obtain ⟨q1, q2⟩ := ho
  refine ⟨q1, ?_⟩
  rcases q2 with q2 | ⟨k, cap, cur, rfl, hb, hh, r⟩
  · exact .inl q2
  · exact .inr ⟨k, cap, cur, rfl, hb, (h.2 k (Array.getElem?_eq_some_iff.1 hh).1 (Blk.ne_ (t := e) hh h1 n1) (Blk.ne_ (t := e) hh h2 n2)).trans hh, r⟩
theorem fresh_only {W W' : World} {g b3 : Nat} {t1 t2 : TypeId} {cs1 cs2 : Array Value} (h1 : Blk W g t1 cs1) (h2 : Blk W b3 t2 cs2) (h : Only W W' g b3) {base : Nat} {A : Option Addr} {bs : List UInt8}
    (hf : FreshD W base A bs) (n1 : 5 ≠ t1) (n2 : 5 ≠ t2) : FreshD W' base A bs :=
  hf.keep fun k ad e hk => by
    obtain ⟨cs, fr, hc⟩ := hf.typ ad e
    rw [hk] at hc
    refine h.2 k (Array.getElem?_eq_some_iff.1 hc).1 ?_ ?_
    · rintro rfl; unfold Blk at h1; rw [h1] at hc; injection hc with hc; injection hc with _ ht; exact n1 ht.symm
    · rintro rfl; unfold Blk at h2; rw [h2] at hc; injection hc with hc; injection hc with _ ht; exact n2 ht.symm
theorem Only.refl (W : World) (g b3 : Nat) : Only W W g b3 := ⟨Nat.le_refl _, fun _ _ _ _ => rfl⟩
theorem Only.alloc {W W' : World} {g b3 : Nat} (h : Only W W' g b3) (o : Obj) : Only W (W'.alloc o) g b3 :=
  ⟨by rw [alloc_size]; have := h.1; omega, fun i hi h1 h2 => (Below.heap_alloc W' o i (Nat.lt_of_lt_of_le hi h.1)).trans (h.2 i hi h1 h2)⟩
theorem Only.drew {W W' : World} {g b3 : Nat} (h : Only W W' g b3) : Only W W'.drew g b3 := h
theorem Only.newset {W W' : World} {g b3 : Nat} (h : Only W W' g b3) {eb : Nat} (he : W.heap.size ≤ eb) (i : Nat) (u : Value) : Only W (W'.setCell ⟨eb, i, none⟩ u) g b3 :=
  ⟨by simpa [World.setCell] using h.1, fun j hj h1 h2 => (Below.heap_setCell W' _ u j (by simp; omega)).trans (h.2 j hj h1 h2)⟩
theorem ents_only {W W' : World} {g b3 : Nat} {cs1 cs2 : Array Value} (h1 : Blk W g 88 cs1) (h2 : Blk W b3 28 cs2) (h : Only W W' g b3) {base : Nat} {v : Value} {l : List (Ent × EM)}
    (he : EntsF W base v l) : EntsF W' base v l :=
  ⟨own_only h1 h2 h he.own (by decide) (by decide), fun p hp =>
    let q := he.each p hp; ⟨fresh_only h1 h2 h q.fresh (by decide) (by decide), own_only h1 h2 h q.nodes (by decide) (by decide), q.dc, q.dl, q.nl⟩⟩
/-- The append of an entry. -/
theorem ents_app {W W' : World} {base : Nat} {v v' : Value} {l : List (Ent × EM)} {p : Ent × EM} (he : EntsF W base v l) (hp : EntF W base p) (hg : W.grownBy W' v.ownBlock) (ho : W'.ownsRow base 45 5 v' (l.length + 1) (ecells l ++ ecell p)) :
    EntsF W' base v' (l ++ [p]) := by
  have hk : ∀ q, EntF W base q → EntF W' base q := by
    intro q hq
    refine ⟨hq.fresh.grown hg ?_, hq.nodes.kept hg ?_, hq.dc, hq.dl, hq.nl⟩
    · intro ad hA e
      obtain ⟨cs, fr, hc⟩ := hq.fresh.typ ad hA
      rcases he.own.2 with ⟨rfl, _⟩ | ⟨g', cap, cur, rfl, _, hh, _⟩
      · simp [Value.ownBlock] at e
      · have : ad.block = g' := by simpa [Value.ownBlock] using e
        rw [this, hh] at hc
        injection hc with hc; injection hc with _ ht
        exact absurd ht (by decide)
    · rcases hq.nodes.2 with ⟨hn, _⟩ | ⟨g, cap, cur, hn, _, hh, _⟩
      · exact .inl (by rw [hn]; rfl)
      · refine .inr ?_
        rw [hn]
        intro e
        have e' : v.ownBlock = some g := e.symm
        rcases he.own.2 with ⟨rfl, _⟩ | ⟨g', cap', cur', rfl, _, hh', _⟩
        · simp [Value.ownBlock] at e'
        · have : g' = g := by simpa [Value.ownBlock] using e'
          subst this
          rw [hh] at hh'
          injection hh' with hh'; injection hh' with _ ht
          exact absurd ht (by decide)
  refine ⟨by rw [List.length_append]; simpa [ecells] using ho, fun q hq => ?_⟩
  rcases List.mem_append.1 hq with h | h
  · exact hk q (he.each q h)
  · rw [List.mem_singleton] at h; subst h; exact hk _ hp
theorem row_of_own {w W : World} {g b3 a : Nat} {b : List UInt8} {A : Option Addr} {c : Nat} {cs : Array Value} (h : LSt w W g b3 b a A c cs) {v : Value} {l : List (Ent × EM)} (he : EntsF W w.heap.size v l) :
    ∀ j, v.ownBlock = some j → w.heap.size < j ∧ j ≠ b3 := by
  intro j ej
  obtain ⟨zs, hz, _⟩ := h.box2
  rcases he.own.2 with ⟨rfl, _⟩ | ⟨g', cap, cur, rfl, hb, hh, _⟩
  · simp [Value.ownBlock] at ej
  · have : g' = j := by simpa [Value.ownBlock] using ej
    subst this
    have n1 := Blk.ne_ (t := 45) hh hz (by decide)
    have n2 := Blk.ne_ (t := 45) hh h.box3 (by decide)
    exact ⟨by omega, n2⟩
theorem arr14 (zs : Array Value) (h : zs.size = 14) : ∃ z0 z1 z2 z3 z4 z5 z6 z7 z8 z9 z10 z11 z12 z13, zs = #[z0, z1, z2, z3, z4, z5, z6, z7, z8, z9, z10, z11, z12, z13] := by
  obtain ⟨l⟩ := zs
  match l, h with
  | [z0, z1, z2, z3, z4, z5, z6, z7, z8, z9, z10, z11, z12, z13], _ => exact ⟨z0, z1, z2, z3, z4, z5, z6, z7, z8, z9, z10, z11, z12, z13, rfl⟩
theorem size_letter : (Tryd.prog.info? 28).map (·.size) = some 14 := by kernel_rfl
/-- The end: the letter lies in the result's box. -/
structure Fin (w W : World) (g : Nat) (b : List UInt8) (a : Nat) (A : Option Addr) (c : Nat) (m : Let) (x : LMem) (zs : Array Value) : Prop where
  grown : w.grownBy W (some g)
  rdr : Rdr W g b a A c
  box : Blk W w.heap.size 28 zs
  letF : LetF W w.heap.size m x
theorem Fin.set_ {w W : World} {g a a0 : Nat} {b : List UInt8} {A : Option Addr} {c : Nat} {m : Let} {x : LMem} {zs : Array Value} (h0 : Rdr w g b a0 A c) (hgl : g < w.heap.size) (h : Fin w W g b a A c m x zs) (i : Nat) (u : Value) :
    Fin w (W.setCell ⟨w.heap.size, i, none⟩ u) g b a A c m x (zs.setIfInBounds i u) := by
  have hg := grown_set W ⟨w.heap.size, i, none⟩ u
  have ho := only_set W w.heap.size i u g
  obtain ⟨l, hl, he⟩ := h.letF.ents
  exact ⟨grown_new h.grown hg (fun j e => by injection e with e; simp at e; omega), h.rdr.grown hg (fun e => by injection e with e; simp at e; omega) (fun ad hA hne e => by injection e with e; have := h0.lt hA hne; simp at e; omega),
    h.box.set_ i u, ⟨⟨l, hl, ents_only h.rdr.blk h.box ho he⟩, own_only h.rdr.blk h.box ho h.letF.nodes (by decide) (by decide), fresh_only h.rdr.blk h.box ho h.letF.data (by decide) (by decide), h.letF.dc, h.letF.el, h.letF.nl, h.letF.dl⟩⟩
theorem Fin.set14 {w W : World} {g a a0 : Nat} {b : List UInt8} {A : Option Addr} {c : Nat} {m : Let} {x : LMem} {z0 z1 z2 z3 z4 z5 z6 z7 z8 z9 z10 z11 z12 z13 : Value} (h : Fin w W g b a A c m x #[z0, z1, z2, z3, z4, z5, z6, z7, z8, z9, z10, z11, z12, z13]) (h0 : Rdr w g b a0 A c) (hgl : g < w.heap.size) (v0 v1 v2 v3 v4 v5 v6 v7 v8 v9 v10 v11 v12 v13 : Value) :
    Fin w ((((((((((((((W.setCell ⟨w.heap.size, 0, none⟩ v0).setCell ⟨w.heap.size, 1, none⟩ v1).setCell ⟨w.heap.size, 2, none⟩ v2).setCell ⟨w.heap.size, 3, none⟩ v3).setCell ⟨w.heap.size, 4, none⟩ v4).setCell ⟨w.heap.size, 5, none⟩ v5).setCell ⟨w.heap.size, 6, none⟩ v6).setCell ⟨w.heap.size, 7, none⟩ v7).setCell ⟨w.heap.size, 8, none⟩ v8).setCell ⟨w.heap.size, 9, none⟩ v9).setCell ⟨w.heap.size, 10, none⟩ v10).setCell ⟨w.heap.size, 11, none⟩ v11).setCell ⟨w.heap.size, 12, none⟩ v12).setCell ⟨w.heap.size, 13, none⟩ v13) g b a A c m x #[v0, v1, v2, v3, v4, v5, v6, v7, v8, v9, v10, v11, v12, v13] := by
  have h : Fin w _ g b a A c m x #[v0, z1, z2, z3, z4, z5, z6, z7, z8, z9, z10, z11, z12, z13] := Fin.set_ h0 hgl h 0 v0
  have h : Fin w _ g b a A c m x #[v0, v1, z2, z3, z4, z5, z6, z7, z8, z9, z10, z11, z12, z13] := Fin.set_ h0 hgl h 1 v1
  have h : Fin w _ g b a A c m x #[v0, v1, v2, z3, z4, z5, z6, z7, z8, z9, z10, z11, z12, z13] := Fin.set_ h0 hgl h 2 v2
  have h : Fin w _ g b a A c m x #[v0, v1, v2, v3, z4, z5, z6, z7, z8, z9, z10, z11, z12, z13] := Fin.set_ h0 hgl h 3 v3
  have h : Fin w _ g b a A c m x #[v0, v1, v2, v3, v4, z5, z6, z7, z8, z9, z10, z11, z12, z13] := Fin.set_ h0 hgl h 4 v4
  have h : Fin w _ g b a A c m x #[v0, v1, v2, v3, v4, v5, z6, z7, z8, z9, z10, z11, z12, z13] := Fin.set_ h0 hgl h 5 v5
  have h : Fin w _ g b a A c m x #[v0, v1, v2, v3, v4, v5, v6, z7, z8, z9, z10, z11, z12, z13] := Fin.set_ h0 hgl h 6 v6
  have h : Fin w _ g b a A c m x #[v0, v1, v2, v3, v4, v5, v6, v7, z8, z9, z10, z11, z12, z13] := Fin.set_ h0 hgl h 7 v7
  have h : Fin w _ g b a A c m x #[v0, v1, v2, v3, v4, v5, v6, v7, v8, z9, z10, z11, z12, z13] := Fin.set_ h0 hgl h 8 v8
  have h : Fin w _ g b a A c m x #[v0, v1, v2, v3, v4, v5, v6, v7, v8, v9, z10, z11, z12, z13] := Fin.set_ h0 hgl h 9 v9
  have h : Fin w _ g b a A c m x #[v0, v1, v2, v3, v4, v5, v6, v7, v8, v9, v10, z11, z12, z13] := Fin.set_ h0 hgl h 10 v10
  have h : Fin w _ g b a A c m x #[v0, v1, v2, v3, v4, v5, v6, v7, v8, v9, v10, v11, z12, z13] := Fin.set_ h0 hgl h 11 v11
  have h : Fin w _ g b a A c m x #[v0, v1, v2, v3, v4, v5, v6, v7, v8, v9, v10, v11, v12, z13] := Fin.set_ h0 hgl h 12 v12
  have h : Fin w _ g b a A c m x #[v0, v1, v2, v3, v4, v5, v6, v7, v8, v9, v10, v11, v12, v13] := Fin.set_ h0 hgl h 13 v13
  exact h
/-- What the reading of an entry's head leaves. -/
def EHead (w wr : World) (b3 g : Nat) (b : List UInt8) (at_ : Nat) (A : Option Addr) (c : Nat) (CE : Array Value) (i : Int) (F : Nat → Nat → Nat → Except Nat (Let × Nat)) (s5 : Value) (W : World) : Prop :=
  ∃ (et kd a13 eb : Nat), s5 = .pointer (some ⟨eb, 0, none⟩) ∧ letF b at_ = F et kd a13 ∧ kd ≤ 2 ∧ LSt w W g b3 b a13 A c CE ∧ Only wr W g b3 ∧ wr.heap.size ≤ eb ∧ Blk W eb 45 #[.int .i64 i, .int .i64 et, .int .i64 kd, .slice none 0 0, .slice none 0 0]
/-- What the switch over an entry's kind leaves. -/
def EEnd (w wr : World) (b3 eb g : Nat) (b : List UInt8) (A : Option Addr) (c : Nat) (CE : Array Value) (i : Int) (et kd a13 : Nat) (W : World) : Prop :=
  ∃ (e : Ent) (q : EM) (a2 : Nat), entBody b i et kd a13 = .ok (e, a2) ∧ LSt w W g b3 b a2 A c CE ∧ Only wr W g b3 ∧ EntF W w.heap.size (e, q) ∧ Blk W eb 45 (ecell (e, q)).toArray
/-- What the switch leaves. -/
def LEnd (w : World) (b3 at_ g : Nat) (b : List UInt8) (A : Option Addr) (c : Nat) (W : World) : Prop :=
  ∃ m a' x, letF b at_ = .ok (m, a') ∧ LSt w W g b3 b a' A c (lcells m x) ∧ LetF W w.heap.size m x

set_option maxHeartbeats 8000000 in
theorem letter_any (b : List UInt8) (at_ g : Nat) (A : Option Addr) (c : Nat) (w : World) (h : Rdr w g b at_ A c) :
    Calls Tryd.prog 54 #[.pointer (some ⟨g, 0, none⟩)] w (LetterPost b at_ g A c w) := by
  have HH := Lib.hid h
  have hgl := h.blk.lt
  clear h
  go_enter Tryd.func54, Tryd.ntmps54
  go_wp2_with fail
  have HZ := Lib.hid (Blk.new w 28 (lcells ⟨0, 0, 0, 0, 0, 0, 0, 0, false, [], noSnp⟩ ⟨none, none, none, 0, 0, 0⟩))
  have HA0 := Lib.hid (World.grownBy_alloc w (.cells (lcells ⟨0, 0, 0, 0, 0, 0, 0, 0, false, [], noSnp⟩ ⟨none, none, none, 0, 0, 0⟩) 28) (some g))
  unfold lcells noSnp at HZ HA0
  refine (num_any b 5 at_ g A c _ (HH.out.keep ((Below.refl _ _).alloc (Nat.le_refl _) _)) (by omega)).mono ?_
  rintro e w1 ⟨hg1, ⟨k, a1, hr1, rfl, hR1⟩ | ⟨hr1, rfl, hR1⟩⟩
  rotate_left
  · go_wp2_with fail
    refine ⟨rfl, grown_trans HA0.out hg1, .inr ⟨_, ?_, rfl⟩⟩
    unfold letF; simp only [hr1, bnd_ok, bnd_err]
  have HG1 := Lib.hid (grown_trans HA0.out hg1)
  have HZ1 := Lib.hid (HZ.out.grown hg1 (by intro e; injection e with e; omega))
  have HR1 := Lib.hid hR1
  have HE1 := Lib.hid hr1
  have hb1 := rnum_ok hr1 HH.out.hat
  have hsz1 := HG1.out.size
  clear hg1 hR1 hr1 HZ HA0 hb1
  go_wp2_with fail
  refine (num_any b 5 a1 g A c _ HR1.out (by omega)).mono ?_
  rintro e w2 ⟨hg2, ⟨f, a2, hr2, rfl, hR2⟩ | ⟨hr2, rfl, hR2⟩⟩
  rotate_left
  · go_wp2_with fail
    refine ⟨rfl, grown_trans HG1.out hg2, .inr ⟨_, ?_, rfl⟩⟩
    unfold letF; simp only [HE1.out, hr2, bnd_ok, bnd_err]
  have HG2 := Lib.hid (grown_trans HG1.out hg2)
  have HZ2 := Lib.hid (HZ1.out.grown hg2 (by intro e; injection e with e; omega))
  have HR2 := Lib.hid hR2
  have HE2 := Lib.hid hr2
  have hb2 := rnum_ok hr2 HR1.out.hat
  have hsz2 := HG2.out.size
  clear hg2 hR2 hr2 HZ1 HG1 hb2
  go_wp2_with fail
  refine (num_any b 5 a2 g A c _ HR2.out (by omega)).mono ?_
  rintro e w3 ⟨hg3, ⟨t, a3, hr3, rfl, hR3⟩ | ⟨hr3, rfl, hR3⟩⟩
  rotate_left
  · go_wp2_with fail
    refine ⟨rfl, grown_trans HG2.out hg3, .inr ⟨_, ?_, rfl⟩⟩
    unfold letF; simp only [HE1.out, HE2.out, hr3, bnd_ok, bnd_err]
  have HG3 := Lib.hid (grown_trans HG2.out hg3)
  have HZ3 := Lib.hid (HZ2.out.grown hg3 (by intro e; injection e with e; omega))
  have HR3 := Lib.hid hR3
  have HE3 := Lib.hid hr3
  have hb3 := rnum_ok hr3 HR2.out.hat
  have hsz3 := HG3.out.size
  clear hg3 hR3 hr3 HZ2 HG2 hb3
  go_wp2_with fail
  refine (num_any b 999999 a3 g A c _ HR3.out (by omega)).mono ?_
  rintro e w4 ⟨hg4, ⟨tm, a4, hr4, rfl, hR4⟩ | ⟨hr4, rfl, hR4⟩⟩
  rotate_left
  · go_wp2_with fail
    refine ⟨rfl, grown_trans HG3.out hg4, .inr ⟨_, ?_, rfl⟩⟩
    unfold letF; simp only [HE1.out, HE2.out, HE3.out, hr4, bnd_ok, bnd_err]
  have HG4 := Lib.hid (grown_trans HG3.out hg4)
  have HZ4 := Lib.hid (HZ3.out.grown hg4 (by intro e; injection e with e; omega))
  have HR4 := Lib.hid hR4
  have HE4 := Lib.hid hr4
  have hb4 := rnum_ok hr4 HR3.out.hat
  have hsz4 := HG4.out.size
  clear hg4 hR4 hr4 HZ3 HG3 hb4
  have HF := Lib.hid (show letF b at_ = letBody b k f t tm a4 by unfold letF; simp only [HE1.out, HE2.out, HE3.out, HE4.out, bnd_ok])
  have hk5 := (rnum_ok HE1.out HH.out.hat).1
  have HS := Lib.hid (show LSt w (w4.alloc (.cells #[.int .i64 k, .int .i64 f, .int .i64 t, .int .i64 tm, .int .i64 0, .int .i64 0, .int .i64 0, .int .i64 0, .bool false, .slice none 0 0, .int .i64 0, .int .i64 0, .slice none 0 0, .slice none 0 0] 28)) g w4.heap.size b a4 A c #[.int .i64 k, .int .i64 f, .int .i64 t, .int .i64 tm, .int .i64 0, .int .i64 0, .int .i64 0, .int .i64 0, .bool false, .slice none 0 0, .int .i64 0, .int .i64 0, .slice none 0 0, .slice none 0 0] from
    ⟨grown_trans HG4.out (World.grownBy_alloc _ _ _), HR4.out.keep ((Below.refl _ _).alloc (Nat.le_refl _) _), ⟨_, HZ4.out.alloc _, rfl⟩, Blk.new _ _ _, by have := HZ4.out.lt; omega, hgl⟩)
  clear HE1 HE2 HE3 HE4 HR1 HR2 HR3 HR4 HG4 HZ4
  go_upto_block 0 with fail
  generalize w4.alloc (.cells #[.int .i64 k, .int .i64 f, .int .i64 t, .int .i64 tm, .int .i64 0, .int .i64 0, .int .i64 0, .int .i64 0, .bool false, .slice none 0 0, .int .i64 0, .int .i64 0, .slice none 0 0, .slice none 0 0] 28) = W at HS ⊢
  generalize w4.heap.size = b3 at HS ⊢
  go_cut [] (fun wx => LEnd w b3 at_ g b A c wx)
  case first =>
    by_cases hk0 : k = 0
    · have e0 : ((k : Int) == 0) = true := by simp; omega
      have HK := Lib.hid hk0
      clear hk0
      go_wp2_with fail
      refine ⟨rfl, HS.out.grown, .inr ⟨0, ?_, rfl⟩⟩
      rw [HF.out]; unfold letBody; rw [if_pos HK.out]
    by_cases hk : k = 1
    · have e0 : ((k : Int) == 0) = false := by simp; omega
      have e1 : ((k : Int) == 1) = true := by simp; omega
      have e2 : ((k : Int) == 2) = false := by simp; omega
      have e4 : ((k : Int) == 4) = false := by simp; omega
      have e5 : ((k : Int) == 5) = false := by simp; omega
      have e3 : ((k : Int) == 3) = false := by simp; omega
      have hF1 := HF.out
      unfold letBody at hF1
      rw [if_neg (by omega), if_pos hk] at hF1
      have HF1 := Lib.hid hF1
      have HK := Lib.hid hk
      clear hF1 HF hk
      go_wp2_with fail
      refine (num_any b 999999 a4 g A c _ HS.out.rdr (by omega)).mono ?_
      rintro e w6 ⟨hg6, ⟨i, a6, hr6, rfl, hR6⟩ | ⟨hr6, rfl, hR6⟩⟩
      rotate_left
      · go_wp2_with fail
        refine ⟨rfl, grown_trans HS.out.grown hg6, .inr ⟨_, ?_, rfl⟩⟩
        have hF := HF1.out
        simpa only [hr6, bnd_err] using hF
      have HS6 := Lib.hid (HS.out.num hg6 hR6)
      have hF6 := HF1.out
      simp only [hr6, bnd_ok] at hF6
      have HF6 := Lib.hid hF6
      have HM6 := Lib.hid (rnum_ok hr6 HS.out.rdr.hat).1
      clear hg6 hR6 hr6 hF6 HS HF1
      go_wp2_with fail
      refine (num_any b 999999 a6 g A c _ HS6.out.rdr (by omega)).mono ?_
      rintro e w7 ⟨hg7, ⟨l, a7, hr7, rfl, hR7⟩ | ⟨hr7, rfl, hR7⟩⟩
      rotate_left
      · go_wp2_with fail
        refine ⟨rfl, grown_trans HS6.out.grown hg7, .inr ⟨_, ?_, rfl⟩⟩
        have hF := HF6.out
        simpa only [hr7, bnd_err] using hF
      have HS7 := Lib.hid (HS6.out.num hg7 hR7)
      have hF7 := HF6.out
      simp only [hr7, bnd_ok] at hF7
      have HF7 := Lib.hid hF7
      have HM7 := Lib.hid (rnum_ok hr7 HS6.out.rdr.hat).1
      clear hg7 hR7 hr7 hF7 HS6 HF6
      have c3 := HS7.out.box3.cells
      have f3 := HS7.out.box3.frozen
      go_wp2_with fail
      go_meet
      refine ⟨⟨k, f, t, tm, i, l, 0, 0, false, [], noSnp⟩, _, ⟨none, none, none, 0, 0, 0⟩, HF7.out, ?_, ?_⟩
      · exact (LSt.set_ HH.out (LSt.set_ HH.out HS7.out 4 _) 5 _)
      · exact LetF.bare _ _ _ rfl rfl
    have hk1 : k ≠ 1 := hk
    clear hk
    by_cases hk : k = 2
    · have e0 : ((k : Int) == 0) = false := by simp; omega
      have e1 : ((k : Int) == 1) = false := by simp; omega
      have e2 : ((k : Int) == 2) = true := by simp; omega
      have e4 : ((k : Int) == 4) = false := by simp; omega
      have e5 : ((k : Int) == 5) = false := by simp; omega
      have e3 : ((k : Int) == 3) = false := by simp; omega
      have hF1 := HF.out
      unfold letBody at hF1
      rw [if_neg (by omega), if_neg (by omega), if_pos hk] at hF1
      have HF1 := Lib.hid hF1
      have HK := Lib.hid hk
      clear hF1 HF hk
      go_wp2_with fail
      refine (num_any b 1 a4 g A c _ HS.out.rdr (by omega)).mono ?_
      rintro e w6 ⟨hg6, ⟨o, a6, hr6, rfl, hR6⟩ | ⟨hr6, rfl, hR6⟩⟩
      rotate_left
      · go_wp2_with fail
        refine ⟨rfl, grown_trans HS.out.grown hg6, .inr ⟨_, ?_, rfl⟩⟩
        have hF := HF1.out
        simpa only [hr6, bnd_err] using hF
      have HS6 := Lib.hid (HS.out.num hg6 hR6)
      have hF6 := HF1.out
      simp only [hr6, bnd_ok] at hF6
      have HF6 := Lib.hid hF6
      have HM6 := Lib.hid (rnum_ok hr6 HS.out.rdr.hat).1
      clear hg6 hR6 hr6 hF6 HS HF1
      have c3 := HS6.out.box3.cells
      have f3 := HS6.out.box3.frozen
      go_wp2_with fail
      go_meet
      refine ⟨⟨k, f, t, tm, 0, 0, 0, 0, ((o : Int) == 1), [], noSnp⟩, _, ⟨none, none, none, 0, 0, 0⟩, HF6.out, ?_, ?_⟩
      · exact (LSt.set_ HH.out HS6.out 8 _)
      · exact LetF.bare _ _ _ rfl rfl
    have hk2 : k ≠ 2 := hk
    clear hk
    by_cases hk : k = 4
    · have e0 : ((k : Int) == 0) = false := by simp; omega
      have e1 : ((k : Int) == 1) = false := by simp; omega
      have e2 : ((k : Int) == 2) = false := by simp; omega
      have e4 : ((k : Int) == 4) = true := by simp; omega
      have e5 : ((k : Int) == 5) = false := by simp; omega
      have e3 : ((k : Int) == 3) = false := by simp; omega
      have hF1 := HF.out
      unfold letBody at hF1
      rw [if_neg (by omega), if_neg (by omega), if_neg (by omega), if_pos hk] at hF1
      have HF1 := Lib.hid hF1
      have HK := Lib.hid hk
      clear hF1 HF hk
      go_wp2_with fail
      refine (num_any b 1 a4 g A c _ HS.out.rdr (by omega)).mono ?_
      rintro e w6 ⟨hg6, ⟨o, a6, hr6, rfl, hR6⟩ | ⟨hr6, rfl, hR6⟩⟩
      rotate_left
      · go_wp2_with fail
        refine ⟨rfl, grown_trans HS.out.grown hg6, .inr ⟨_, ?_, rfl⟩⟩
        have hF := HF1.out
        simpa only [hr6, bnd_err] using hF
      have HS6 := Lib.hid (HS.out.num hg6 hR6)
      have hF6 := HF1.out
      simp only [hr6, bnd_ok] at hF6
      have HF6 := Lib.hid hF6
      have HM6 := Lib.hid (rnum_ok hr6 HS.out.rdr.hat).1
      clear hg6 hR6 hr6 hF6 HS HF1
      go_wp2_with fail
      refine (num_any b 999999 a6 g A c _ HS6.out.rdr (by omega)).mono ?_
      rintro e w7 ⟨hg7, ⟨i, a7, hr7, rfl, hR7⟩ | ⟨hr7, rfl, hR7⟩⟩
      rotate_left
      · go_wp2_with fail
        refine ⟨rfl, grown_trans HS6.out.grown hg7, .inr ⟨_, ?_, rfl⟩⟩
        have hF := HF6.out
        simpa only [hr7, bnd_err] using hF
      have HS7 := Lib.hid (HS6.out.num hg7 hR7)
      have hF7 := HF6.out
      simp only [hr7, bnd_ok] at hF7
      have HF7 := Lib.hid hF7
      have HM7 := Lib.hid (rnum_ok hr7 HS6.out.rdr.hat).1
      clear hg7 hR7 hr7 hF7 HS6 HF6
      go_wp2_with fail
      refine (num_any b 1073741824 a7 g A c _ HS7.out.rdr (by omega)).mono ?_
      rintro e w8 ⟨hg8, ⟨r, a8, hr8, rfl, hR8⟩ | ⟨hr8, rfl, hR8⟩⟩
      rotate_left
      · go_wp2_with fail
        refine ⟨rfl, grown_trans HS7.out.grown hg8, .inr ⟨_, ?_, rfl⟩⟩
        have hF := HF7.out
        simpa only [hr8, bnd_err] using hF
      have HS8 := Lib.hid (HS7.out.num hg8 hR8)
      have hF8 := HF7.out
      simp only [hr8, bnd_ok] at hF8
      have HF8 := Lib.hid hF8
      have HM8 := Lib.hid (rnum_ok hr8 HS7.out.rdr.hat).1
      clear hg8 hR8 hr8 hF8 HS7 HF7
      have c3 := HS8.out.box3.cells
      have f3 := HS8.out.box3.frozen
      go_wp2_with fail
      go_meet
      refine ⟨⟨k, f, t, tm, i, 0, 0, r, ((o : Int) == 1), [], noSnp⟩, _, ⟨none, none, none, 0, 0, 0⟩, HF8.out, ?_, ?_⟩
      · exact (LSt.set_ HH.out (LSt.set_ HH.out (LSt.set_ HH.out HS8.out 8 _) 4 _) 7 _)
      · exact LetF.bare _ _ _ rfl rfl
    have hk4 : k ≠ 4 := hk
    clear hk
    by_cases hk : k = 5
    · have e0 : ((k : Int) == 0) = false := by simp; omega
      have e1 : ((k : Int) == 1) = false := by simp; omega
      have e2 : ((k : Int) == 2) = false := by simp; omega
      have e4 : ((k : Int) == 4) = false := by simp; omega
      have e5 : ((k : Int) == 5) = true := by simp; omega
      have e3 : ((k : Int) == 3) = false := by simp; omega
      have hF1 := HF.out
      unfold letBody at hF1
      rw [if_neg (by omega), if_neg (by omega), if_neg (by omega), if_neg (by omega), if_pos hk] at hF1
      have HF1 := Lib.hid hF1
      have HK := Lib.hid hk
      clear hF1 HF hk
      go_wp2_with fail
      refine (num_any b 999999 a4 g A c _ HS.out.rdr (by omega)).mono ?_
      rintro e w6 ⟨hg6, ⟨i, a6, hr6, rfl, hR6⟩ | ⟨hr6, rfl, hR6⟩⟩
      rotate_left
      · go_wp2_with fail
        refine ⟨rfl, grown_trans HS.out.grown hg6, .inr ⟨_, ?_, rfl⟩⟩
        have hF := HF1.out
        simpa only [hr6, bnd_err] using hF
      have HS6 := Lib.hid (HS.out.num hg6 hR6)
      have hF6 := HF1.out
      simp only [hr6, bnd_ok] at hF6
      have HF6 := Lib.hid hF6
      have HM6 := Lib.hid (rnum_ok hr6 HS.out.rdr.hat).1
      clear hg6 hR6 hr6 hF6 HS HF1
      go_wp2_with fail
      refine (num_any b 999999 a6 g A c _ HS6.out.rdr (by omega)).mono ?_
      rintro e w7 ⟨hg7, ⟨s, a7, hr7, rfl, hR7⟩ | ⟨hr7, rfl, hR7⟩⟩
      rotate_left
      · go_wp2_with fail
        refine ⟨rfl, grown_trans HS6.out.grown hg7, .inr ⟨_, ?_, rfl⟩⟩
        have hF := HF6.out
        simpa only [hr7, bnd_err] using hF
      have HS7 := Lib.hid (HS6.out.num hg7 hR7)
      have hF7 := HF6.out
      simp only [hr7, bnd_ok] at hF7
      have HF7 := Lib.hid hF7
      have HM7 := Lib.hid (rnum_ok hr7 HS6.out.rdr.hat).1
      clear hg7 hR7 hr7 hF7 HS6 HF6
      go_wp2_with fail
      have hsz7 := HS7.out.grown.size
      refine (nodes_any b a7 g A c _ HS7.out.rdr).mono ?_
      rintro e w8 ⟨hg8, ⟨l, a8, v8, hr8, hl8, rfl, hR8, hO8⟩ | ⟨p8, hr8, rfl⟩⟩
      rotate_left
      · go_wp2_with fail
        refine ⟨rfl, grown_trans HS7.out.grown hg8, .inr ⟨_, ?_, rfl⟩⟩
        have hF := HF7.out
        simpa only [hr8, bnd_err] using hF
      obtain ⟨An, cn, hv8, hcn, _⟩ := own_slice hO8
      have hlen : (ivs (l.map Int.ofNat)).length = l.length := by rw [List.length_map, List.length_map]
      rw [hlen] at hv8 hcn
      subst hv8
      have HS8 := Lib.hid (HS7.out.num hg8 hR8)
      have hF8 := HF7.out
      simp only [hr8, bnd_ok] at hF8
      have HF8 := Lib.hid hF8
      have HO8 := Lib.hid (own_weaken hO8 hsz7)
      have HLN := Lib.hid hlen
      clear hg8 hR8 hr8 hF8 hO8 hlen HS7 HF7 hsz7
      go_wp2_with fail
      have hsz8 := HS8.out.grown.size
      refine (text_any b 300000 a8 g A c _ HS8.out.rdr (by omega)).mono ?_
      rintro e w9 ⟨hg9, ⟨d, a9, Ad, cd, hr9, rfl, hcd, hd9, hR9, hD9⟩ | ⟨hr9, rfl, hR9⟩⟩
      rotate_left
      · go_wp2_with fail
        refine ⟨rfl, grown_trans HS8.out.grown hg9, .inr ⟨_, ?_, rfl⟩⟩
        have hF := HF8.out
        simpa only [hr9, bnd_err] using hF
      have HS9 := Lib.hid (HS8.out.num hg9 hR9)
      have hF9 := HF8.out
      simp only [hr9, bnd_ok] at hF9
      have HF9 := Lib.hid hF9
      have HO9 := Lib.hid (own_only HS8.out.rdr.blk HS8.out.box3 (only_grown hg9 b3) HO8.out (by decide) (by decide))
      have HD9 := Lib.hid (hD9.weaken hsz8)
      clear hg9 hR9 hr9 hF9 hD9 HO8 HS8 HF8 hsz8
      have c3 := HS9.out.box3.cells
      have f3 := HS9.out.box3.frozen
      go_wp2_with fail
      clear c3 f3
      have HS10 := Lib.hid (LSt.set_ HH.out (LSt.set_ HH.out (LSt.set_ HH.out (LSt.set_ HH.out HS9.out 10 (.int .i64 i)) 11 (.int .i64 s)) 12 (.slice An l.length cn)) 13 (.slice Ad d.length cd))
      have hon : Only w9 ((((w9.setCell ⟨b3, 10, none⟩ (.int .i64 i)).setCell ⟨b3, 11, none⟩ (.int .i64 s)).setCell ⟨b3, 12, none⟩ (.slice An l.length cn)).setCell ⟨b3, 13, none⟩ (.slice Ad d.length cd)) g b3 :=
        (((only_set _ _ _ _ _).trans (only_set _ _ _ _ _)).trans (only_set _ _ _ _ _)).trans (only_set _ _ _ _ _)
      have HO10 := Lib.hid (own_only HS9.out.rdr.blk HS9.out.box3 hon HO9.out (by decide) (by decide))
      have HD10 := Lib.hid (fresh_only HS9.out.rdr.blk HS9.out.box3 hon HD9.out (by decide) (by decide))
      clear hon HO9 HD9 HS9
      generalize (((w9.setCell ⟨b3, 10, none⟩ (.int .i64 i)).setCell ⟨b3, 11, none⟩ (.int .i64 s)).setCell ⟨b3, 12, none⟩ (.slice An l.length cn)).setCell ⟨b3, 13, none⟩ (.slice Ad d.length cd) = w10 at HS10 HO10 HD10 ⊢
      refine (num_any b 1073741824 a9 g A c _ HS10.out.rdr (by omega)).mono ?_
      rintro e w11 ⟨hg11, ⟨r, a11, hr11, rfl, hR11⟩ | ⟨hr11, rfl, hR11⟩⟩
      rotate_left
      · go_wp2_with fail
        refine ⟨rfl, grown_trans HS10.out.grown hg11, .inr ⟨_, ?_, rfl⟩⟩
        have hF := HF9.out
        simpa only [hr11, bnd_err] using hF
      have HS11 := Lib.hid (HS10.out.num hg11 hR11)
      have hF11 := HF9.out
      simp only [hr11, bnd_ok] at hF11
      have HF11 := Lib.hid hF11
      have HO11 := Lib.hid (own_only HS10.out.rdr.blk HS10.out.box3 (only_grown hg11 b3) HO10.out (by decide) (by decide))
      have HD11 := Lib.hid (fresh_only HS10.out.rdr.blk HS10.out.box3 (only_grown hg11 b3) HD10.out (by decide) (by decide))
      have HQ := Lib.hid (And.intro hl8 (And.intro hcd hd9))
      clear hg11 hR11 hr11 hF11 HO10 HD10 HS10 HF9 hl8 hcd hd9 hcn
      have c3 := HS11.out.box3.cells
      have f3 := HS11.out.box3.frozen
      go_wp2_with fail
      go_meet
      clear c3 f3
      obtain ⟨q1, q2, q3⟩ := HQ.out
      have hO := own_only HS11.out.rdr.blk HS11.out.box3 (only_set w11 b3 7 (.int .i64 r) g) HO11.out (by decide) (by decide)
      have hD := fresh_only HS11.out.rdr.blk HS11.out.box3 (only_set w11 b3 7 (.int .i64 r) g) HD11.out (by decide) (by decide)
      refine ⟨_, _, ⟨none, An, Ad, 0, cn, cd⟩, HF11.out, ?_, ⟨⟨[], rfl, EntsF.nil_ _ _⟩, ?_, hD, q2, by simp, ?_, by simp only; omega⟩⟩
      · unfold lcells; simp only [List.length_map]; exact LSt.set_ HH.out HS11.out 7 _
      · have := hO
        unfold OwnI
        simp only [List.length_map] at this ⊢
        exact this
      · try (simp only [List.length_map]; omega)
    have hk5 : k ≠ 5 := hk
    clear hk
    have hk : k = 3 := by omega
    have e0 : ((k : Int) == 0) = false := by simp; omega
    have e1 : ((k : Int) == 1) = false := by simp; omega
    have e2 : ((k : Int) == 2) = false := by simp; omega
    have e4 : ((k : Int) == 4) = false := by simp; omega
    have e5 : ((k : Int) == 5) = false := by simp; omega
    have e3 : ((k : Int) == 3) = true := by simp; omega
    have hF1 := HF.out
    unfold letBody at hF1
    rw [if_neg (by omega), if_neg (by omega), if_neg (by omega), if_neg (by omega), if_neg (by omega)] at hF1
    have HF1 := Lib.hid hF1
    have HK := Lib.hid hk
    clear hF1 HF hk
    go_wp2_with fail
    refine (num_any b 999999 a4 g A c _ HS.out.rdr (by omega)).mono ?_
    rintro e w6 ⟨hg6, ⟨i, a6, hr6, rfl, hR6⟩ | ⟨hr6, rfl, hR6⟩⟩
    rotate_left
    · go_wp2_with fail
      refine ⟨rfl, grown_trans HS.out.grown hg6, .inr ⟨_, ?_, rfl⟩⟩
      have hF := HF1.out
      simpa only [hr6, bnd_err] using hF
    have HS6 := Lib.hid (HS.out.num hg6 hR6)
    have hF6 := HF1.out
    simp only [hr6, bnd_ok] at hF6
    have HF6 := Lib.hid hF6
    have HM6 := Lib.hid (rnum_ok hr6 HS.out.rdr.hat).1
    clear hg6 hR6 hr6 hF6 HS HF1
    go_wp2_with fail
    refine (num_any b 999999 a6 g A c _ HS6.out.rdr (by omega)).mono ?_
    rintro e w7 ⟨hg7, ⟨l, a7, hr7, rfl, hR7⟩ | ⟨hr7, rfl, hR7⟩⟩
    rotate_left
    · go_wp2_with fail
      refine ⟨rfl, grown_trans HS6.out.grown hg7, .inr ⟨_, ?_, rfl⟩⟩
      have hF := HF6.out
      simpa only [hr7, bnd_err] using hF
    have HS7 := Lib.hid (HS6.out.num hg7 hR7)
    have hF7 := HF6.out
    simp only [hr7, bnd_ok] at hF7
    have HF7 := Lib.hid hF7
    have HM7 := Lib.hid (rnum_ok hr7 HS6.out.rdr.hat).1
    clear hg7 hR7 hr7 hF7 HS6 HF6
    go_wp2_with fail
    refine (num_any b 999999 a7 g A c _ HS7.out.rdr (by omega)).mono ?_
    rintro e w8 ⟨hg8, ⟨cm, a8, hr8, rfl, hR8⟩ | ⟨hr8, rfl, hR8⟩⟩
    rotate_left
    · go_wp2_with fail
      refine ⟨rfl, grown_trans HS7.out.grown hg8, .inr ⟨_, ?_, rfl⟩⟩
      have hF := HF7.out
      simpa only [hr8, bnd_err] using hF
    have HS8 := Lib.hid (HS7.out.num hg8 hR8)
    have hF8 := HF7.out
    simp only [hr8, bnd_ok] at hF8
    have HF8 := Lib.hid hF8
    have HM8 := Lib.hid (rnum_ok hr8 HS7.out.rdr.hat).1
    clear hg8 hR8 hr8 hF8 HS7 HF7
    go_wp2_with fail
    refine (num_any b 1073741824 a8 g A c _ HS8.out.rdr (by omega)).mono ?_
    rintro e w9 ⟨hg9, ⟨r, a9, hr9, rfl, hR9⟩ | ⟨hr9, rfl, hR9⟩⟩
    rotate_left
    · go_wp2_with fail
      refine ⟨rfl, grown_trans HS8.out.grown hg9, .inr ⟨_, ?_, rfl⟩⟩
      have hF := HF8.out
      simpa only [hr9, bnd_err] using hF
    have HS9 := Lib.hid (HS8.out.num hg9 hR9)
    have hF9 := HF8.out
    simp only [hr9, bnd_ok] at hF9
    have HF9 := Lib.hid hF9
    have HM9 := Lib.hid (rnum_ok hr9 HS8.out.rdr.hat).1
    clear hg9 hR9 hr9 hF9 HS8 HF8
    have c3 := HS9.out.box3.cells
    have f3 := HS9.out.box3.frozen
    go_wp2_with fail
    clear c3 f3
    have HS10 := Lib.hid (LSt.set_ HH.out (LSt.set_ HH.out (LSt.set_ HH.out (LSt.set_ HH.out HS9.out 4 (.int .i64 i)) 5 (.int .i64 l)) 6 (.int .i64 cm)) 7 (.int .i64 r))
    clear HS9
    generalize (((w9.setCell ⟨b3, 4, none⟩ (.int .i64 i)).setCell ⟨b3, 5, none⟩ (.int .i64 l)).setCell ⟨b3, 6, none⟩ (.int .i64 cm)).setCell ⟨b3, 7, none⟩ (.int .i64 r) = w10 at HS10 ⊢
    refine (num_any b 4 a9 g A c _ HS10.out.rdr (by omega)).mono ?_
    rintro e w11 ⟨hg11, ⟨n, a11, hr11, rfl, hR11⟩ | ⟨hr11, rfl, hR11⟩⟩
    rotate_left
    · go_wp2_with fail
      refine ⟨rfl, grown_trans HS10.out.grown hg11, .inr ⟨_, ?_, rfl⟩⟩
      have hF := HF9.out
      simpa only [hr11, bnd_err] using hF
    have HS11 := Lib.hid (HS10.out.num hg11 hR11)
    have hF11 := HF9.out
    simp only [hr11, bnd_ok] at hF11
    have HF11 := Lib.hid hF11
    have HM11 := Lib.hid (rnum_ok hr11 HS10.out.rdr.hat).1
    clear hg11 hR11 hr11 hF11 HS10 HF9
    have hn4 := HM11.out
    have hsz11 := HS11.out.grown.size
    go_wp2_with fail
    have hi9 := HM6.out
    go_loopg [77] n (fun d i77 wr => ∃ (kk a : Nat) (es : List (Ent × EM)) (Ae : Option Addr) (ce : Nat), d + kk = n ∧ kk ≤ n ∧ w.heap.size ≤ wr.heap.size ∧ i77 = .int .i64 kk ∧ Hid (es.length = kk) ∧
      Hid (letF b at_ = bnd (rents b ((i : Int) + 1 + kk) (n - kk) a) fun es2 a => .ok (⟨k, f, t, tm, i, l, cm, r, false, es.map (·.1) ++ es2, noSnp⟩, a)) ∧
      Hid (LSt w wr g b3 b a A c #[.int .i64 k, .int .i64 f, .int .i64 t, .int .i64 tm, .int .i64 i, .int .i64 l, .int .i64 cm, .int .i64 r, .bool false, .slice Ae es.length ce, .int .i64 0, .int .i64 0, .slice none 0 0, .slice none 0 0]) ∧
      Hid (EntsF wr w.heap.size (.slice Ae es.length ce) es))
    case atStart => exact ⟨0, a11, [], none, 0, rfl, Nat.zero_le _, hsz11, rfl, rfl, (by show _ = _; rw [HF11.out]; simp), HS11.out, EntsF.nil_ _ _⟩
    case round =>
      obtain ⟨kk, a, es, Ae, ce, hd, hk, hsr, rfl, HL, HE, HSr, HEs⟩ := hrel
      have HD := Lib.hid hd
      clear hd HS11 HF11
      by_cases hlt : kk < n
      · have cr : wr.cell? ⟨b3, 4, none⟩ = some (.int .i64 i) := HSr.out.box3.cell 4
        have hE0 := HE.out
        rw [show n - kk = (n - (kk + 1)) + 1 by omega, rents] at hE0
        unfold rent at hE0
        have HE0 := Lib.hid hE0
        clear hE0
        go_upto_region 19 with fail
        go_cut [5] (fun s5 wx => EHead w wr b3 g b at_ A c #[.int .i64 k, .int .i64 f, .int .i64 t, .int .i64 tm, .int .i64 i, .int .i64 l, .int .i64 cm, .int .i64 r, .bool false, .slice Ae es.length ce, .int .i64 0, .int .i64 0, .slice none 0 0, .slice none 0 0] ((i : Int) + 1 + kk) (fun et kd a13 => bnd (entBody b ((i : Int) + 1 + kk) et kd a13) fun e a => bnd (rents b ((i : Int) + 1 + kk + 1) (n - (kk + 1)) a) fun l2 a => .ok (⟨k, f, t, tm, i, l, cm, r, false, es.map (·.1) ++ e :: l2, noSnp⟩, a)) s5 wx)
        case first =>
          have tok1 : True := trivial
          have HSd := Lib.hid HSr.out.drew
          have hlo := HSr.out.lo
          have hbr := HSr.out.box3.lt
          have hw1 : IntKind.i64.wrap ((i : Int) + 1) = (i : Int) + 1 := IntWalk.i64_in _ (by omega)
          have hw2 : IntKind.i64.wrap ((i : Int) + 1 + kk) = (i : Int) + 1 + kk := IntWalk.i64_in _ (by omega)
          have hnr : wr.heap.size ≠ b3 := World.new_ne wr _ cr
          have HSa := Lib.hid (HSr.out.alloc HH.out (.cells #[.int .i64 0, .int .i64 0, .int .i64 0, .slice none 0 0, .slice none 0 0] 45)).drew
          go_region_held2 (fun w' => w'.cell? ⟨b3, 4, none⟩ = some (.int .i64 i)) (first | go_keep | (refine set5_cell ?_ ?_ <;> assumption)) (first
            | (go_at_call 68
               have _t := tok1
               (with_reducible refine (num_term b a g A c wr.drew HSd.out.rdr).mono ?_)
               clear tok1
               rintro e w12 ⟨hg12, ⟨et, a12, hr12, rfl, hR12⟩ | ⟨hr12, rfl, hR12⟩⟩
               rotate_left
               · go_wp2_with fail
                 refine ⟨rfl, grown_trans HSd.out.grown hg12, .inr ⟨_, ?_, rfl⟩⟩
                 have hF := HE0.out
                 simpa only [hr12, bnd_err] using hF
               have cr2 : w12.cell? ⟨b3, 4, none⟩ = some (.int .i64 i) := (HSd.out.num hg12 hR12).box3.cell 4
               have hnw : w12.heap.size ≠ b3 := World.new_ne w12 _ cr2
               have HS12 := Lib.hid (HSd.out.num hg12 hR12)
               have hE12 := HE0.out
               simp only [hr12, bnd_ok] at hE12
               have HE12 := Lib.hid hE12
               have hs12 := HS12.out.box3.lt
               have HO12 := Lib.hid ((Only.refl wr g b3).drew.trans (only_grown hg12 b3))
               clear hg12 hR12 hr12 hE12)
            | (go_at_call 68
               have _t := tok1
               (with_reducible refine (num_term b a g A c (wr.alloc (.cells #[.int .i64 0, .int .i64 0, .int .i64 0, .slice none 0 0, .slice none 0 0] 45)).drew HSa.out.rdr).mono ?_)
               clear tok1
               rintro e w12 ⟨hg12, ⟨et, a12, hr12, rfl, hR12⟩ | ⟨hr12, rfl, hR12⟩⟩
               rotate_left
               · go_wp2_with fail
                 refine ⟨rfl, grown_trans HSa.out.grown hg12, .inr ⟨_, ?_, rfl⟩⟩
                 have hF := HE0.out
                 simpa only [hr12, bnd_err] using hF
               have cr2 : w12.cell? ⟨b3, 4, none⟩ = some (.int .i64 i) := (HSa.out.num hg12 hR12).box3.cell 4
               have hnw : w12.heap.size ≠ b3 := World.new_ne w12 _ cr2
               have HS12 := Lib.hid (HSa.out.num hg12 hR12)
               have hE12 := HE0.out
               simp only [hr12, bnd_ok] at hE12
               have HE12 := Lib.hid hE12
               have hs12 := HS12.out.box3.lt
               have HO12 := Lib.hid ((((Only.refl wr g b3).alloc (.cells #[.int .i64 0, .int .i64 0, .int .i64 0, .slice none 0 0, .slice none 0 0] 45)).drew).trans (only_grown hg12 b3))
               have Hbe := Lib.hid ((Blk.new wr 45 #[.int .i64 0, .int .i64 0, .int .i64 0, .slice none 0 0, .slice none 0 0]).drew.grown hg12 (by intro e; injection e with e; omega))
               clear hg12 hR12 hr12 hE12)
            | (go_at_call 68
               (with_reducible refine (num_kind b a12 g A c w12 HS12.out.rdr).mono ?_)
               rintro e w13 ⟨hg13, ⟨kd, a13, hr13, rfl, hR13⟩ | ⟨hr13, rfl, hR13⟩⟩
               rotate_left
               · go_wp2_with fail
                 refine ⟨rfl, grown_trans HS12.out.grown hg13, .inr ⟨_, ?_, rfl⟩⟩
                 have hF := HE12.out
                 simpa only [hr13, bnd_err] using hF
               have cr3 : w13.cell? ⟨b3, 4, none⟩ = some (.int .i64 i) := (HS12.out.num hg13 hR13).box3.cell 4
               have HS13 := Lib.hid (HS12.out.num hg13 hR13)
               have hE13 := HE12.out
               simp only [hr13, bnd_ok] at hE13
               have HE13 := Lib.hid hE13
               have HO13 := Lib.hid (HO12.out.trans (only_grown hg13 b3))
               have hkd := (rnum_ok hr13 HS12.out.rdr.hat).1
               have be := (Hbe.out.grown hg13 (by intro e; injection e with e; omega)).cells
               have bf := (Hbe.out.grown hg13 (by intro e; injection e with e; omega)).frozen
               have HB13 := Lib.hid (Hbe.out.grown hg13 (by intro e; injection e with e; omega))
               clear hg13 hR13 hr13 hE13)
            | (go_at_call 68
               (with_reducible refine (num_kind b a12 g A c w12 HS12.out.rdr).mono ?_)
               rintro e w13 ⟨hg13, ⟨kd, a13, hr13, rfl, hR13⟩ | ⟨hr13, rfl, hR13⟩⟩
               rotate_left
               · go_wp2_with fail
                 refine ⟨rfl, grown_trans HS12.out.grown hg13, .inr ⟨_, ?_, rfl⟩⟩
                 have hF := HE12.out
                 simpa only [hr13, bnd_err] using hF
               have cr3 : w13.cell? ⟨b3, 4, none⟩ = some (.int .i64 i) := (HS12.out.num hg13 hR13).box3.cell 4
               have HS13 := Lib.hid (HS12.out.num hg13 hR13)
               have hE13 := HE12.out
               simp only [hr13, bnd_ok] at hE13
               have HE13 := Lib.hid hE13
               have HO13 := Lib.hid (HO12.out.trans (only_grown hg13 b3))
               have hkd := (rnum_ok hr13 HS12.out.rdr.hat).1
               have _hh := hs12
               clear hg13 hR13 hr13 hE13)
            | (go_at_call 68
               (with_reducible refine (num_kind b a12 g A c (w12.alloc (.cells #[.int .i64 0, .int .i64 0, .int .i64 0, .slice none 0 0, .slice none 0 0] 45)) (HS12.out.alloc HH.out (.cells #[.int .i64 0, .int .i64 0, .int .i64 0, .slice none 0 0, .slice none 0 0] 45)).rdr).mono ?_)
               rintro e w13 ⟨hg13, ⟨kd, a13, hr13, rfl, hR13⟩ | ⟨hr13, rfl, hR13⟩⟩
               rotate_left
               · go_wp2_with fail
                 refine ⟨rfl, grown_trans (HS12.out.alloc HH.out (.cells #[.int .i64 0, .int .i64 0, .int .i64 0, .slice none 0 0, .slice none 0 0] 45)).grown hg13, .inr ⟨_, ?_, rfl⟩⟩
                 have hF := HE12.out
                 simpa only [hr13, bnd_err] using hF
               have cr3 : w13.cell? ⟨b3, 4, none⟩ = some (.int .i64 i) := ((HS12.out.alloc HH.out (.cells #[.int .i64 0, .int .i64 0, .int .i64 0, .slice none 0 0, .slice none 0 0] 45)).num hg13 hR13).box3.cell 4
               have HS13 := Lib.hid ((HS12.out.alloc HH.out (.cells #[.int .i64 0, .int .i64 0, .int .i64 0, .slice none 0 0, .slice none 0 0] 45)).num hg13 hR13)
               have hE13 := HE12.out
               simp only [hr13, bnd_ok] at hE13
               have HE13 := Lib.hid hE13
               have HO13 := Lib.hid ((HO12.out.alloc (.cells #[.int .i64 0, .int .i64 0, .int .i64 0, .slice none 0 0, .slice none 0 0] 45)).trans (only_grown hg13 b3))
               have hkd := (rnum_ok hr13 (HS12.out.alloc HH.out (.cells #[.int .i64 0, .int .i64 0, .int .i64 0, .slice none 0 0, .slice none 0 0] 45)).rdr.hat).1
               have hbn := (Blk.new w12 45 #[.int .i64 0, .int .i64 0, .int .i64 0, .slice none 0 0, .slice none 0 0]).grown hg13 (by intro e; injection e with e; omega)
               have be := hbn.cells
               have bf := hbn.frozen
               have HB13 := Lib.hid hbn
               clear hbn
               clear hg13 hR13 hr13 hE13))
          all_goals go_wp2_with fail
          · go_meet
            exact ⟨et, kd, a13, w13.heap.size, rfl, HE13.out.trans (bnd_cons _ _ _), hkd, HS13.out.alloc HH.out _, HO13.out.alloc _, HO13.out.1, Blk.new _ _ _⟩
          · go_meet
            have := HO12.out.1
            exact ⟨et, kd, a13, w12.heap.size, rfl, HE13.out.trans (bnd_cons _ _ _), hkd, (LSt.newset HH.out (LSt.newset HH.out (LSt.newset HH.out (LSt.newset HH.out (LSt.newset HH.out HS13.out (eb := w12.heap.size) (by omega) hnw 0 _) (eb := w12.heap.size) (by omega) hnw 1 _) (eb := w12.heap.size) (by omega) hnw 2 _) (eb := w12.heap.size) (by omega) hnw 3 _) (eb := w12.heap.size) (by omega) hnw 4 _), (Only.newset (Only.newset (Only.newset (Only.newset (Only.newset HO13.out (eb := w12.heap.size) (by omega) 0 _) (eb := w12.heap.size) (by omega) 1 _) (eb := w12.heap.size) (by omega) 2 _) (eb := w12.heap.size) (by omega) 3 _) (eb := w12.heap.size) (by omega) 4 _), by omega, (((((HB13.out.set_ 0 _).set_ 1 _).set_ 2 _).set_ 3 _).set_ 4 _)⟩
          · go_meet
            exact ⟨et, kd, a13, wr.heap.size, rfl, HE13.out.trans (bnd_cons _ _ _), hkd, (LSt.newset HH.out (LSt.newset HH.out (LSt.newset HH.out (LSt.newset HH.out (LSt.newset HH.out HS13.out (eb := wr.heap.size) (by omega) hnr 0 _) (eb := wr.heap.size) (by omega) hnr 1 _) (eb := wr.heap.size) (by omega) hnr 2 _) (eb := wr.heap.size) (by omega) hnr 3 _) (eb := wr.heap.size) (by omega) hnr 4 _), (Only.newset (Only.newset (Only.newset (Only.newset (Only.newset HO13.out (eb := wr.heap.size) (by omega) 0 _) (eb := wr.heap.size) (by omega) 1 _) (eb := wr.heap.size) (by omega) 2 _) (eb := wr.heap.size) (by omega) 3 _) (eb := wr.heap.size) (by omega) 4 _), by omega, (((((HB13.out.set_ 0 _).set_ 1 _).set_ 2 _).set_ 3 _).set_ 4 _)⟩
        case rest =>
          obtain ⟨et, kd, a13, eb, rfl, hF, hkd, hS, hO, hebl, hB⟩ := hcut
          have HOc := Lib.hid hO
          have HFc := Lib.hid hF
          have HSc := Lib.hid hS
          have HBc := Lib.hid hB
          have hebn : b3 < eb := by have := HSr.out.box3.lt; omega
          have hlo := HSr.out.lo
          have be := hB.cells
          have bf := hB.frozen
          clear hF hS hO hB HE cr HE0
          go_upto_block 3 with fail
          go_cut [] (fun wx => EEnd w wr b3 eb g b A c #[.int .i64 k, .int .i64 f, .int .i64 t, .int .i64 tm, .int .i64 i, .int .i64 l, .int .i64 cm, .int .i64 r, .bool false, .slice Ae es.length ce, .int .i64 0, .int .i64 0, .slice none 0 0, .slice none 0 0] ((i : Int) + 1 + kk) et kd a13 wx)
          case first =>
            by_cases k1 : kd = 1
            · have q1 : ((kd : Int) == 1) = true := by simp; omega
              have HK1 := Lib.hid k1
              clear k1
              have hszc := HSc.out.grown.size
              go_wp2_with fail
              refine (text_any b 8000 a13 g A c _ HSc.out.rdr (by omega)).mono ?_
              rintro e w14 ⟨hg14, ⟨d, a14, Ad, cd, hr14, rfl, hcd, hd14, hR14, hD14⟩ | ⟨hr14, rfl, hR14⟩⟩
              rotate_left
              · go_wp2_with fail
                refine ⟨rfl, grown_trans HSc.out.grown hg14, .inr ⟨_, ?_, rfl⟩⟩
                rw [HFc.out]; unfold entBody; rw [if_pos HK1.out, hr14]; rfl
              have hB14 := HBc.out.grown hg14 (by intro e; injection e with e; omega)
              have be14 := hB14.cells
              have bf14 := hB14.frozen
              have HB14 := Lib.hid hB14
              have HS14 := Lib.hid (HSc.out.num hg14 hR14)
              have HO14 := Lib.hid (HOc.out.trans (only_grown hg14 b3))
              have HD14 := Lib.hid (hD14.weaken hszc)
              have HQ := Lib.hid (And.intro hcd hd14)
              have HR14 := Lib.hid hr14
              clear be bf hg14 hR14 hD14 hr14 hB14 HBc HSc HOc hcd hd14
              go_wp2_with fail
              go_meet
              obtain ⟨z1, z2⟩ := HQ.out
              refine ⟨⟨(i : Int) + 1 + kk, et, kd, d, []⟩, ⟨Ad, none, cd, 0⟩, a14, ?_, HS14.out.newset HH.out (by omega) (by omega) 3 _, HO14.out.newset hebl 3 _, ⟨?_, own_nil _ _ _ _, z1, by simp only; omega, by simp⟩, HB14.out.set_ 3 _⟩
              · unfold entBody; rw [if_pos HK1.out, HR14.out]; rfl
              · exact fresh_only HB14.out HB14.out (only_set w14 eb 3 _ eb) HD14.out (by decide) (by decide)
            · have q1 : ((kd : Int) == 1) = false := by simp; omega
              by_cases k2 : kd = 2
              · have q2 : ((kd : Int) == 2) = true := by simp; omega
                have HK2 := Lib.hid (And.intro k1 k2)
                clear k2 k1
                have hszc := HSc.out.grown.size
                go_wp2_with fail
                refine (nodes_any b a13 g A c _ HSc.out.rdr).mono ?_
                rintro e w14 ⟨hg14, ⟨ns, a14, v14, hr14, hl14, rfl, hR14, hO14⟩ | ⟨p14, hr14, rfl⟩⟩
                rotate_left
                · go_wp2_with fail
                  refine ⟨rfl, grown_trans HSc.out.grown hg14, .inr ⟨_, ?_, rfl⟩⟩
                  rw [HFc.out]; unfold entBody; rw [if_neg HK2.out.1, if_pos HK2.out.2, hr14]; rfl
                obtain ⟨An, cn, hv14, hcn, _⟩ := own_slice hO14
                have hlen : (ivs (ns.map Int.ofNat)).length = ns.length := by rw [List.length_map, List.length_map]
                rw [hlen] at hv14 hcn
                subst hv14
                have hB14 := HBc.out.grown hg14 (by intro e; injection e with e; omega)
                have be14 := hB14.cells
                have bf14 := hB14.frozen
                have HB14 := Lib.hid hB14
                have HS14 := Lib.hid (HSc.out.num hg14 hR14)
                have HO14 := Lib.hid (HOc.out.trans (only_grown hg14 b3))
                have HN14 := Lib.hid (own_weaken hO14 hszc)
                have HQ := Lib.hid (And.intro hcn hl14)
                have HR14 := Lib.hid hr14
                clear be bf hg14 hR14 hO14 hr14 hB14 HBc HSc HOc hcn hl14 hlen
                go_wp2_with fail
                go_meet
                obtain ⟨z1, z2⟩ := HQ.out
                have hN := own_only HB14.out HB14.out (only_set w14 eb 4 (.slice An ns.length cn) eb) HN14.out (by decide) (by decide)
                refine ⟨⟨(i : Int) + 1 + kk, et, kd, [], ns.map Int.ofNat⟩, ⟨none, An, 0, cn⟩, a14, ?_, HS14.out.newset HH.out (by omega) (by omega) 4 _, HO14.out.newset hebl 4 _, ⟨FreshD.none_ _ _, ?_, by simp, by simp, by simp only [List.length_map]; omega⟩, ?_⟩
                · unfold entBody; rw [if_neg HK2.out.1, if_pos HK2.out.2, HR14.out]; rfl
                · simp only [List.length_map] at hN ⊢; exact hN
                · unfold ecell; simp only [List.length_map]; exact HB14.out.set_ 4 _
              · have q2 : ((kd : Int) == 2) = false := by simp; omega
                go_wp2_with fail
                go_meet
                refine ⟨⟨(i : Int) + 1 + kk, et, kd, [], []⟩, ⟨none, none, 0, 0⟩, a13, ?_, HSc.out, HOc.out, EntF.bare _ _ _ _ _, HBc.out⟩
                unfold entBody; rw [if_neg k1, if_neg k2]
          case rest =>
            obtain ⟨e, q, a14, he, hS, hO, hE, hB⟩ := hcut
            obtain ⟨i0, hi0, hz0, hz1, hz2⟩ := info_parts info_entry
            have hEs := ents_only HSr.out.rdr.blk HSr.out.box3 hO HEs.out
            have HS2 := Lib.hid hS
            have HB2 := Lib.hid hB
            have HE2 := Lib.hid hE
            have HEs2 := Lib.hid hEs
            have HX := Lib.hid he
            have c3 := hS.box3.cells
            have be2 := hB.cells
            unfold ecell at be2
            have hws := hS.grown.size
            clear be bf hO hS hB hE hEs he HSc HBc HOc HSr HEs
            go_wp2_with (first
              | (at_builtin
                 refine wpList_append_own_at (wc.alloc (.cells (ecell (e, q)).toArray 45)) rfl (.tmp 103) (.tmp 105) 22 rfl w.heap.size 45 i0 _ 5 72 Tryd.underlying22 hi0 hz0 hz1 hz2 rfl (by omega) (.slice Ae es.length ce) es.length (ecells es) rfl (HEs2.out.below ((Below.refl _ _).alloc (Nat.le_refl _) _)).own ⟨wc.heap.size, 0, none⟩ 1 1 (ecell (e, q)) rfl rfl (blk_news (Blk.new _ _ _)) ?h1 ?h2 ?h3 ?h4 ?_
                 rotate_left 4
                 intro v15 w15 hown hgr _ _
                 obtain ⟨A15, c15, hv15, hc15, _⟩ := own_slice hown
                 subst hv15
                 have HEa := HEs2.out.below ((Below.refl _ _).alloc (Nat.le_refl _) (.cells (ecell (e, q)).toArray 45))
                 have HSa := HS2.out.alloc HH.out (.cells (ecell (e, q)).toArray 45)
                 have HS15 := Lib.hid (HSa.row HH.out hgr (row_of_own HSa HEa))
                 have HE15 := Lib.hid (ents_app HEa (HE2.out.keep ((Below.refl _ _).alloc (Nat.le_refl _) _)) hgr hown)
                 have c15 := HS15.out.box3.cells
                 have f15 := HS15.out.box3.frozen
                 clear hown hgr HEa HSa c3))
            case h1 => exact one_ecell _
            case h2 => have := HL.out; simp only [maxLen]; omega
            case h3 => have := HL.out; omega
            case h4 => omega
            clear c15 f15
            have hHX := HX.out
            have hHF := HFc.out
            go_roundg (n - (kk + 1))
            case measure => have := HD.out; omega
            case rel =>
              have hS15 := LSt.set_ HH.out HS15.out 9 (.slice A15 (es.length + 1) c15)
              have hE15 := ents_only HS15.out.rdr.blk HS15.out.box3 (only_set w15 b3 9 (.slice A15 (es.length + 1) c15) g) HE15.out
              refine ⟨kk + 1, a14, es ++ [(e, q)], A15, c15, by omega, by omega, hS15.grown.size, by go_num, (by show _ = _; rw [List.length_append, HL.out]; rfl), ?_, ?_, ?_⟩
              · show _ = _
                rw [hHF, hHX, bnd_ok]
                simp only [List.map_append, List.append_assoc, List.map_cons, List.map_nil, List.singleton_append, Int.natCast_add, Int.add_assoc, Int.natCast_one]
              · show LSt _ _ _ _ _ _ _ _ _
                rw [List.length_append]; exact hS15
              · show EntsF _ _ _ _
                rw [List.length_append]; exact hE15
      · have hE0 := HE.out
        rw [show n - kk = 0 by omega, rents, bnd_ok] at hE0
        have HE0 := Lib.hid hE0
        clear hE0 HE
        go_wp2_with fail
        go_meet
        have hLn := HL.out
        refine ⟨_, _, ⟨Ae, none, none, ce, 0, 0⟩, HE0.out, ?_, ⟨⟨es, (by simp only [List.append_nil]), ?_⟩, own_nil _ _ _ _, FreshD.none_ _ _, (by simp [noSnp]), ?_, (by simp [noSnp]), (by simp [noSnp])⟩⟩
        · unfold lcells; simp only [List.append_nil, List.length_map]; exact HSr.out
        · simp only [List.append_nil, List.length_map]; exact HEs.out
        · simp only [List.append_nil, List.length_map]; omega
  case rest =>
    obtain ⟨m, a', x, hm, hs, hf⟩ := hcut
    obtain ⟨zs, hz, hzs⟩ := hs.box2
    obtain ⟨z0, z1, z2, z3, z4, z5, z6, z7, z8, z9, z10, z11, z12, z13, rfl⟩ := arr14 zs hzs
    have HSx := Lib.hid hs
    have HFx := Lib.hid hf
    have HMx := Lib.hid hm
    have HZx := Lib.hid hz
    have c3 := hs.box3.cells
    have f3 := hs.box3.frozen
    have c2 := hz.cells
    have f2 := hz.frozen
    unfold lcells at c3
    clear hs hf hm hz hzs HF HS
    go_wp2_with fail
    clear c3 f3 c2 f2
    have hFin : Fin w wc g b a' A c m x #[z0, z1, z2, z3, z4, z5, z6, z7, z8, z9, z10, z11, z12, z13] := ⟨HSx.out.grown, HSx.out.rdr, HZx.out, HFx.out⟩
    have hFin := hFin.set14 HH.out hgl (.int .i64 m.kind) (.int .i64 m.from_) (.int .i64 m.to_) (.int .i64 m.term) (.int .i64 m.index) (.int .i64 m.logTerm) (.int .i64 m.commit) (.int .i64 m.round) (.bool m.ok) (.slice x.Ae m.ents.length x.ce) (.int .i64 m.snap.index) (.int .i64 m.snap.term) (.slice x.An m.snap.nodes.length x.cn) (.slice x.Ad m.snap.data.length x.cd)
    refine bodyPost_ret (results_cell_row rfl _ _ _ _ (lcells m x) _ _ rfl hFin.box Tryd.underlying28 rfl size_letter) rfl ?_
    exact ⟨hFin.grown, .inl ⟨m, a', x, HMx.out, rfl, hFin.rdr, hFin.letF⟩⟩
end Go.Proofs.YtmgandacmhkndaaDoor
