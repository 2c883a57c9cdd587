/- Arguments of the wire's laws, opened to memory: bytes, numbers, entries, letters, where the data are of bulk at most 1048576. No walk. No conditions. -/
import Derived.Test.YtmgandacmhkndaaDoorCard
import Derived.Deep.Slices
import Derived.Deep.Fields
import Derived.Lib.SmallJoins
namespace Go.Proofs.YtmgandacmhkndaaDoor
open Go.ChangeShapes Go.WideShapes Go.RowKit Go.Deep
set_option maxRecDepth 100000
set_option linter.unusedSimpArgs false

/-! Bulk. -/
theorem bulk_one {H : Type} (d : DataW H) : 1 ≤ Rows.uptoBulk d := by
  cases d with
  | lit l => cases l <;> simp [Rows.uptoBulk]
  | nil => simp [Rows.uptoBulk]
  | ptr d => simp [Rows.uptoBulk]
  | slice elems spare => simp [Rows.uptoBulk]
  | agg parts => simp [Rows.uptoBulk]
  | iface t d => simp [Rows.uptoBulk]
  | map entries => simp [Rows.uptoBulk]
  | held h => simp [Rows.uptoBulk]
theorem bulk_part {H : Type} {d : DataW H} {l : List (DataW H)} (h : d ∈ l) : Rows.uptoBulk d ≤ Rows.uptoBulkAll l := by
  induction l with
  | nil => cases h
  | cons x r ih =>
    simp only [Rows.uptoBulkAll]
    cases List.mem_cons.1 h with
    | inl e => subst e; omega
    | inr e => have := ih e; omega
theorem bulk_append {H : Type} (l r : List (DataW H)) : Rows.uptoBulkAll (l ++ r) = Rows.uptoBulkAll l + Rows.uptoBulkAll r := by
  induction l with
  | nil => simp [Rows.uptoBulkAll]
  | cons x l ih => simp only [List.cons_append, Rows.uptoBulkAll, ih]; omega
theorem bulk_length {H : Type} (l : List (DataW H)) : l.length ≤ Rows.uptoBulkAll l := by
  induction l with
  | nil => simp [Rows.uptoBulkAll]
  | cons x r ih => have := bulk_one x; simp only [Rows.uptoBulkAll, List.length_cons]; omega
theorem bulk_agg {H : Type} {d : DataW H} {l : List (DataW H)} (h : d ∈ l) : Rows.uptoBulk d ≤ Rows.uptoBulk (.agg l) := by
  have := bulk_part h; simp only [Rows.uptoBulk]; omega
theorem bulk_slice {H : Type} (l r : List (DataW H)) : l.length ≤ Rows.uptoBulk (.slice l r) := by
  have := bulk_length l; simp only [Rows.uptoBulk]; omega
theorem bulk_elem {H : Type} {d : DataW H} {l : List (DataW H)} (r : List (DataW H)) (h : d ∈ l) : Rows.uptoBulk d ≤ Rows.uptoBulk (.slice l r) := by
  have := bulk_part h; simp only [Rows.uptoBulk]; omega

theorem choose_list {α : Type} {n : Nat} {Q : Nat → α → Prop} (h : ∀ i, i < n → ∃ x, Q i x) : ∃ l : List α, l.length = n ∧ ∀ i (hi : i < l.length), Q i l[i] := by
  induction n with
  | zero => exact ⟨[], rfl, fun i hi => by simp at hi⟩
  | succ n ih =>
    obtain ⟨l, hl, hq⟩ := ih fun i hi => h i (by omega)
    obtain ⟨x, hx⟩ := h n (by omega)
    refine ⟨l ++ [x], by simp [hl], fun i hi => ?_⟩
    by_cases hin : i < l.length
    · rw [List.getElem_append_left hin]; exact hq i hin
    · have : i = n := by simp at hi; omega
      subst this
      rw [List.getElem_append_right (by omega)]
      simpa [hl] using hx

section
variable {H : Type} {enc : TypeId × Value → H} {P : Program} {w : World} {base : Nat} {spare : Nat → Bool} {held : Bool}
theorem open_slice_fields {t e : TypeId} {fs : Array Field} {fuel : Nat} {cs : List Value} {x : DataW H × List MemPlace} (ht : P.underlying t = some (.slice e)) (he : P.underlying e = some (.struct fs))
    (hone : oneCellFields P fs = true) (hC : P.cellsOf e = fs.size) (h : DataW.trod enc P w base spare held fuel t cs = some x) :
    (cs = [.slice none 0 0] ∧ x = (.nil, [])) ∨
    ∃ (a : Addr) (len cap m : Nat) (D : Nat → DataW H) (Pl : Nat → List MemPlace), cs = [.slice (some a) len cap] ∧ base ≤ a.block ∧ len ≤ cap ∧ cap ≤ maxLen ∧ m = (if spare a.block then cap else len) ∧
      x = (.slice ((List.range len).map D) ((List.range (m - len)).map fun j => D (len + j)), MemPlace.row a (m * fs.size) ++ (List.range m).flatMap Pl) ∧
      ∀ i, i < m → ∃ (ys : List (DataW H × List MemPlace)) (n : Nat), D i = .agg (ys.map (·.1)) ∧ Pl i = ys.flatMap (·.2) ∧ ys.length = fs.size ∧
        ∀ (j : Nat) (f : Field), fs[j]? = some f → ∃ (v : Value) (y : DataW H × List MemPlace), w.cell? (a.add (i * fs.size + j)) = some v ∧ ys[j]? = some y ∧ DataW.trod enc P w base spare held n f.type [v] = some y := by
  rcases open_slice ht h with h0 | ⟨a, len, cap, m, n, D, Pl, hcs, hb, hl, hm, hmm, hx, hi⟩
  · exact .inl h0
  · refine .inr ⟨a, len, cap, m, D, Pl, hcs, hb, hl, hm, hmm, by rw [hC] at hx; exact hx, fun i him => ?_⟩
    obtain ⟨cs', hc, ht'⟩ := hi i him
    rw [hC] at hc
    obtain ⟨ys, n', hn', hy, hlen, hyl, hf⟩ := DataW.trod_struct he ht'
    obtain ⟨_, hcl, hat⟩ := World.cells?_some hc
    simp only [Prod.mk.injEq] at hy
    refine ⟨ys, n', hy.1, hy.2, hyl, fun j f hj => ?_⟩
    obtain ⟨ho, hk⟩ := hone_of hone j f hj
    have hjl : j < fs.size := (Array.getElem?_eq_some_iff.1 hj).1
    have hcell := hat j hjl
    have hv : cs'[j]? = some (cs'[j]'(by omega)) := List.getElem?_eq_getElem (by omega)
    have h1 := hf j f hj
    rw [ho, hk] at h1
    have hone' : (cs'.drop j).take 1 = [cs'[j]'(by omega)] := by
      rw [List.drop_eq_getElem_cons (by omega)]
      rfl
    rw [hone'] at h1
    have hys : ys[j]? = some (ys[j]'(by omega)) := List.getElem?_eq_getElem (by omega)
    refine ⟨_, _, ?_, hys, h1.trans hys⟩
    rw [← Go.Deep.add_add, hcell, hv]
end

section
variable {H : Type} {enc : TypeId × Value → H} {w : World} {base : Nat} {spare : Nat → Bool} {held : Bool} {fuel : Nat}
theorem cells_u8 : Tryd.prog.cellsOf 5 = 1 := by kernel_rfl
theorem cells_int : Tryd.prog.cellsOf 3 = 1 := by kernel_rfl
theorem lits_len {H : Type} (k : IntKind) (zs : List Int) : (lits (H := H) k zs).length = zs.length := by simp [lits]
theorem u8_of_wf {z : Int} (h : (Lit.int .u8 z).wf = true) : (.int .u8 z : Value) = bv (UInt8.ofNat z.toNat) := by
  have hb := bounds_u8 h
  unfold bv
  rw [toNat_of (by omega)]
  congr 1; omega
theorem open_rbytes {cs : List Value} {x : DataW H × List MemPlace} (h : DataW.trod enc Tryd.prog w base spare held fuel 24 cs = some x) :
    ∃ A c l, cs = [.slice A l.length c] ∧ Rd w A (bvs l) ∧ l.length ≤ c ∧ c ≤ maxLen ∧ l.length ≤ Rows.uptoBulk x.1 := by
  rcases open_ints Tryd.underlying24 Tryd.underlying5 cells_u8 h with ⟨rfl, rfl⟩ | ⟨a, len, cap, zs, rfl, _, hl, hm, hz, rfl, hcell, hwf⟩
  · exact ⟨none, 0, [], rfl, .inl rfl, by simp, by simp, by simp⟩
  · have hzl : len ≤ zs.length := by rw [hz]; split <;> omega
    have hll : ((zs.take len).map fun z => UInt8.ofNat z.toNat).length = len := by simp; omega
    refine ⟨some a, cap, (zs.take len).map fun z => UInt8.ofNat z.toNat, by rw [hll], .inr ⟨a, rfl, fun j u hu => ?_⟩, by omega, hm, ?_⟩
    · obtain ⟨hj, rfl⟩ := List.getElem?_eq_some_iff.1 hu
      simp only [List.length_map, List.length_take] at hj
      rw [hcell j (by omega)]
      simp only [List.getElem_map, List.getElem_take]
      rw [← u8_of_wf (hwf _ (List.getElem_mem (by omega)))]
      simp [List.getD_eq_getElem?_getD, List.getElem?_eq_getElem (show j < zs.length by omega)]
    · rw [hll]
      have := bulk_slice (lits (H := H) .u8 (zs.take len)) (lits .u8 (zs.drop len))
      rw [lits_len, List.length_take] at this
      show len ≤ Rows.uptoBulk (DataW.slice _ _)
      omega
theorem open_rints {cs : List Value} {x : DataW H × List MemPlace} (h : DataW.trod enc Tryd.prog w base spare held fuel 23 cs = some x) :
    ∃ A c l, cs = [.slice A l.length c] ∧ Rd w A (ivs l) ∧ l.length ≤ c ∧ c ≤ maxLen ∧ l.length ≤ Rows.uptoBulk x.1 := by
  rcases open_ints Tryd.underlying23 Tryd.underlying3 cells_int h with ⟨rfl, rfl⟩ | ⟨a, len, cap, zs, rfl, _, hl, hm, hz, rfl, hcell, hwf⟩
  · exact ⟨none, 0, [], rfl, .inl rfl, by simp, by simp, by simp⟩
  · have hzl : len ≤ zs.length := by rw [hz]; split <;> omega
    have hll : (zs.take len).length = len := by simp; omega
    refine ⟨some a, cap, zs.take len, by rw [hll], .inr ⟨a, rfl, fun j u hu => ?_⟩, by omega, hm, ?_⟩
    · obtain ⟨hj, rfl⟩ := List.getElem?_eq_some_iff.1 hu
      simp only [List.length_map, List.length_take] at hj
      rw [hcell j (by omega)]
      simp [iv, List.getD_eq_getElem?_getD, List.getElem?_eq_getElem (show j < zs.length by omega)]
    · rw [hll]
      have := bulk_slice (lits (H := H) .i64 (zs.take len)) (lits .i64 (zs.drop len))
      rw [lits_len, List.length_take] at this
      show len ≤ Rows.uptoBulk (DataW.slice _ _)
      omega

/-- Bytes that came in. -/
theorem open_bytes {b0 : Nat} {v : Value} {d : DataW H} {p : List MemPlace} (hv : Value.okWide Tryd.prog w .any b0 24 v) (h : DataW.Trod enc Tryd.prog w base spare held 24 v d p) (hB : Rows.uptoBulk d ≤ 1048576) :
    ∃ A c l, v = .slice A l.length c ∧ Rd w A (bvs l) ∧ l.length ≤ c ∧ c ≤ maxLen ∧ l.length ≤ 1048576 := by
  obtain ⟨a0, len, cap, rfl⟩ := okWide_slice Tryd.underlying24 hv
  obtain ⟨fuel, hf⟩ := h
  obtain ⟨A, c, l, e, h1, h2, h3, h4⟩ := open_rbytes (show DataW.trod enc Tryd.prog w base spare held fuel 24 [.slice a0 len cap] = some (d, p) by simpa [Value.cells] using hf)
  injection e with e
  exact ⟨A, c, l, e, h1, h2, h3, Nat.le_trans h4 hB⟩
theorem fields_entry : ∃ fs, Tryd.prog.underlying 45 = some (.struct fs) ∧ fs.size = 5 ∧ oneCellFields Tryd.prog fs = true ∧ Tryd.prog.cellsOf 45 = 5 ∧
    ∃ f0 f1 f2 f3 f4, fs[0]? = some f0 ∧ fs[1]? = some f1 ∧ fs[2]? = some f2 ∧ fs[3]? = some f3 ∧ fs[4]? = some f4 ∧ f0.type = 3 ∧ f1.type = 3 ∧ f2.type = 3 ∧ f3.type = 24 ∧ f4.type = 23 :=
  ⟨_, Tryd.underlying45, rfl, by kernel_rfl, by kernel_rfl, _, _, _, _, _, rfl, rfl, rfl, rfl, rfl, rfl, rfl, rfl, rfl, rfl⟩
theorem open_rents {cs : List Value} {x : DataW H × List MemPlace} (h : DataW.trod enc Tryd.prog w base spare held fuel 22 cs = some x) (hB : Rows.uptoBulk x.1 ≤ 1048576) :
    ∃ A c l, cs = [.slice A l.length c] ∧ REnts w A l ∧ l.length ≤ c ∧ l.length ≤ 1048576 := by
  obtain ⟨fs, hu, hs, hone, hC, f0, f1, f2, f3, f4, g0, g1, g2, g3, g4, t0, t1, t2, t3, t4⟩ := fields_entry
  rcases open_slice_fields Tryd.underlying22 hu hone (by rw [hC, hs]) h with ⟨rfl, rfl⟩ | ⟨a, len, cap, m, D, Pl, rfl, _, hl, _, hm, rfl, hi⟩
  · exact ⟨none, 0, [], rfl, .inl rfl, by simp, by simp⟩
  · have hml : len ≤ m := by rw [hm]; split <;> omega
    have hB' : Rows.uptoBulk (DataW.slice ((List.range len).map D) ((List.range (m - len)).map fun j => D (len + j))) ≤ 1048576 := hB
    have hlen : len ≤ 1048576 := by
      have := bulk_slice ((List.range len).map D) ((List.range (m - len)).map fun j => D (len + j))
      rw [List.length_map, List.length_range] at this; omega
    have each : ∀ i, i < len → ∃ e : Ent, ∃ Ad An cd cn, EntRd w e Ad An cd cn ∧ EntAt w (a.add (i * 5)) e Ad An cd cn := by
      intro i hil
      obtain ⟨ys, n, hD, _, _, hf⟩ := hi i (by omega)
      have hbd : Rows.uptoBulk (D i) ≤ 1048576 := by
        have := bulk_elem ((List.range (m - len)).map fun j => D (len + j)) (d := D i) (l := (List.range len).map D) (List.mem_map.2 ⟨i, List.mem_range.2 hil, rfl⟩)
        omega
      obtain ⟨v0, y0, c0, _, k0⟩ := hf 0 f0 g0
      obtain ⟨v1, y1, c1, _, k1⟩ := hf 1 f1 g1
      obtain ⟨v2, y2, c2, _, k2⟩ := hf 2 f2 g2
      obtain ⟨v3, y3, c3, z3, k3⟩ := hf 3 f3 g3
      obtain ⟨v4, y4, c4, z4, k4⟩ := hf 4 f4 g4
      rw [t0] at k0; rw [t1] at k1; rw [t2] at k2; rw [t3] at k3; rw [t4] at k4
      obtain ⟨n0, e0, _, _⟩ := DataW.trod_int Tryd.underlying3 k0
      obtain ⟨n1, e1, _, _⟩ := DataW.trod_int Tryd.underlying3 k1
      obtain ⟨n2, e2, _, _⟩ := DataW.trod_int Tryd.underlying3 k2
      obtain ⟨Ad, cd, ld, e3, r3, l3, _, b3⟩ := open_rbytes k3
      obtain ⟨An, cn, ln, e4, r4, l4, _, b4⟩ := open_rints k4
      injection e0 with e0; injection e1 with e1; injection e2 with e2; injection e3 with e3; injection e4 with e4
      subst e0 e1 e2 e3 e4
      have p3 : Rows.uptoBulk y3.1 ≤ 1048576 := by
        have := bulk_agg (d := y3.1) (l := ys.map (·.1)) (List.mem_map.2 ⟨y3, List.mem_of_getElem? z3, rfl⟩)
        rw [hD] at hbd; omega
      have p4 : Rows.uptoBulk y4.1 ≤ 1048576 := by
        have := bulk_agg (d := y4.1) (l := ys.map (·.1)) (List.mem_map.2 ⟨y4, List.mem_of_getElem? z4, rfl⟩)
        rw [hD] at hbd; omega
      rw [hs] at c0 c1 c2 c3 c4
      rw [add_field _ _ _ (by omega)] at c1 c2 c3 c4
      exact ⟨⟨n0, n1, n2, ld, ln⟩, Ad, An, cd, cn, ⟨r3, r4, l3, l4, by simp only; omega, by simp only; omega⟩, ⟨c0, c1, c2, c3, c4⟩⟩
    obtain ⟨l, hll, hl2⟩ := choose_list each
    exact ⟨some a, cap, l, by rw [hll], .inr ⟨a, rfl, hl2⟩, by omega, by omega⟩

theorem fields_snap : ∃ fs, Tryd.prog.underlying 26 = some (.struct fs) ∧
    ∃ f0 f1 f2 f3, fs[0]? = some f0 ∧ fs[1]? = some f1 ∧ fs[2]? = some f2 ∧ fs[3]? = some f3 ∧ f0.type = 3 ∧ f1.type = 3 ∧ f2.type = 23 ∧ f3.type = 24 ∧ f0.offset = 0 ∧ f1.offset = 1 ∧ f2.offset = 2 ∧ f3.offset = 3 :=
  ⟨_, Tryd.underlying26, _, _, _, _, rfl, rfl, rfl, rfl, rfl, rfl, rfl, rfl, rfl, rfl, rfl, rfl⟩
theorem cells_snap : Tryd.prog.cellsOf 26 = 4 := by kernel_rfl
theorem cells_letter : Tryd.prog.cellsOf 28 = 14 := by kernel_rfl
theorem cells_bool : Tryd.prog.cellsOf 4 = 1 := by kernel_rfl
theorem cells_sl (t : TypeId) (h : t = 24 ∨ t = 23 ∨ t = 22) : Tryd.prog.cellsOf t = 1 := by rcases h with rfl | rfl | rfl <;> kernel_rfl
theorem open_rsnap {c0 c1 c2 c3 : Value} {x : DataW H × List MemPlace} (h : DataW.trod enc Tryd.prog w base spare held fuel 26 [c0, c1, c2, c3] = some x) (hB : Rows.uptoBulk x.1 ≤ 1048576) :
    ∃ i t An cn ln Ad cd ld, c0 = .int .i64 i ∧ c1 = .int .i64 t ∧ c2 = .slice An ln.length cn ∧ c3 = .slice Ad ld.length cd ∧ Rd w An (ivs ln) ∧ Rd w Ad (bvs ld) ∧ ln.length ≤ cn ∧ ld.length ≤ cd ∧ ln.length ≤ 1048576 ∧ ld.length ≤ 1048576 := by
  obtain ⟨fs, hu, f0, f1, f2, f3, g0, g1, g2, g3, t0, t1, t2, t3, o0, o1, o2, o3⟩ := fields_snap
  obtain ⟨ys, n, _, rfl, _, _, hf⟩ := DataW.trod_struct hu h
  have k0 := hf 0 f0 g0
  have k1 := hf 1 f1 g1
  have k2 := hf 2 f2 g2
  have k3 := hf 3 f3 g3
  have hl : ∀ (j : Nat) (f : Field) (c : Value), fs[j]? = some f → DataW.trod enc Tryd.prog w base spare held n f.type [c] = ys[j]? → ∃ y, ys[j]? = some y ∧ DataW.trod enc Tryd.prog w base spare held n f.type [c] = some y ∧ Rows.uptoBulk y.1 ≤ 1048576 := by
    intro j f c hj hh
    have hlt : j < ys.length := by
      have := (Array.getElem?_eq_some_iff.1 hj).1
      rename_i hlen _
      omega
    refine ⟨ys[j], List.getElem?_eq_getElem hlt, hh.trans (List.getElem?_eq_getElem hlt), ?_⟩
    have := bulk_agg (d := ys[j].1) (l := ys.map (·.1)) (List.mem_map.2 ⟨ys[j], List.getElem_mem hlt, rfl⟩)
    exact Nat.le_trans this hB
  rw [o0, t0, cells_int] at k0
  rw [o1, t1, cells_int] at k1
  rw [o2, t2, cells_sl _ (.inr (.inl rfl))] at k2
  rw [o3, t3, cells_sl _ (.inl rfl)] at k3
  obtain ⟨y0, _, k0, _⟩ := hl 0 f0 c0 g0 (by rw [t0]; exact k0)
  obtain ⟨y1, _, k1, _⟩ := hl 1 f1 c1 g1 (by rw [t1]; exact k1)
  obtain ⟨y2, _, k2, b2⟩ := hl 2 f2 c2 g2 (by rw [t2]; exact k2)
  obtain ⟨y3, _, k3, b3⟩ := hl 3 f3 c3 g3 (by rw [t3]; exact k3)
  rw [t0] at k0; rw [t1] at k1; rw [t2] at k2; rw [t3] at k3
  obtain ⟨n0, e0, _, _⟩ := DataW.trod_int Tryd.underlying3 k0
  obtain ⟨n1, e1, _, _⟩ := DataW.trod_int Tryd.underlying3 k1
  obtain ⟨An, cn, ln, e2, r2, l2, _, d2⟩ := open_rints k2
  obtain ⟨Ad, cd, ld, e3, r3, l3, _, d3⟩ := open_rbytes k3
  injection e0 with e0; injection e1 with e1; injection e2 with e2; injection e3 with e3
  exact ⟨n0, n1, An, cn, ln, Ad, cd, ld, e0, e1, e2, e3, r2, r3, l2, l3, by omega, by omega⟩

theorem fields_letter : ∃ fs, Tryd.prog.underlying 28 = some (.struct fs) ∧ fs.size = 11 ∧
    (∀ j, j < 8 → ∃ f, fs[j]? = some f ∧ f.type = 3 ∧ f.offset = j) ∧ (∃ f, fs[8]? = some f ∧ f.type = 4 ∧ f.offset = 8) ∧ (∃ f, fs[9]? = some f ∧ f.type = 22 ∧ f.offset = 9) ∧ (∃ f, fs[10]? = some f ∧ f.type = 26 ∧ f.offset = 10) := by
  refine ⟨_, Tryd.underlying28, rfl, fun j hj => ?_, ⟨_, rfl, rfl, rfl⟩, ⟨_, rfl, rfl, rfl⟩, ⟨_, rfl, rfl, rfl⟩⟩
  have : j = 0 ∨ j = 1 ∨ j = 2 ∨ j = 3 ∨ j = 4 ∨ j = 5 ∨ j = 6 ∨ j = 7 := by omega
  rcases this with rfl | rfl | rfl | rfl | rfl | rfl | rfl | rfl <;> exact ⟨_, rfl, rfl, rfl⟩
/-- A letter that came in. -/
theorem open_letter {b0 : Nat} {v : Value} {d : DataW H} {p : List MemPlace} (hv : Value.okWide Tryd.prog w .any b0 28 v) (h : DataW.Trod enc Tryd.prog w base spare held 28 v d p) (hB : Rows.uptoBulk d ≤ 1048576) :
    ∃ m x, v = .agg (lcells m x) ∧ LetRd w m x := by
  obtain ⟨fs, hu, hs, hi, ⟨f8, g8, t8, o8⟩, ⟨f9, g9, t9, o9⟩, ⟨fa, ga, ta, oa⟩⟩ := fields_letter
  obtain ⟨cs, rfl, hsz⟩ := okWide_struct hu hv
  rw [cells_letter] at hsz
  obtain ⟨fuel, hf⟩ := h
  obtain ⟨l⟩ := cs
  match l, hsz with
  | [c0, c1, c2, c3, c4, c5, c6, c7, c8, c9, ca, cb, cc, cd], _ =>
    obtain ⟨ys, n, _, hx, _, hlen, hg⟩ := DataW.trod_struct hu hf
    simp only [Prod.mk.injEq] at hx
    obtain ⟨rfl, rfl⟩ := hx
    have hy : ∀ j, j < 11 → ∃ y, ys[j]? = some y ∧ Rows.uptoBulk y.1 ≤ 1048576 := by
      intro j hj
      have hlt : j < ys.length := by omega
      refine ⟨ys[j], List.getElem?_eq_getElem hlt, ?_⟩
      have := bulk_agg (d := ys[j].1) (l := ys.map (·.1)) (List.mem_map.2 ⟨ys[j], List.getElem_mem hlt, rfl⟩)
      exact Nat.le_trans this hB
    have int_at : ∀ j c, j < 8 → (([c0, c1, c2, c3, c4, c5, c6, c7, c8, c9, ca, cb, cc, cd] : List Value).drop j).take 1 = [c] → ∃ z, c = .int .i64 z := by
      intro j c hj hc
      obtain ⟨f, gf, tf, of⟩ := hi j hj
      obtain ⟨y, hyj, _⟩ := hy j (by omega)
      have k := hg j f gf
      simp only [Value.cells] at k
      rw [of, tf, cells_int, hyj, hc] at k
      obtain ⟨z, e, _, _⟩ := DataW.trod_int Tryd.underlying3 k
      injection e with e
      exact ⟨z, e⟩
    obtain ⟨z0, rfl⟩ := int_at 0 c0 (by omega) rfl
    obtain ⟨z1, rfl⟩ := int_at 1 c1 (by omega) rfl
    obtain ⟨z2, rfl⟩ := int_at 2 c2 (by omega) rfl
    obtain ⟨z3, rfl⟩ := int_at 3 c3 (by omega) rfl
    obtain ⟨z4, rfl⟩ := int_at 4 c4 (by omega) rfl
    obtain ⟨z5, rfl⟩ := int_at 5 c5 (by omega) rfl
    obtain ⟨z6, rfl⟩ := int_at 6 c6 (by omega) rfl
    obtain ⟨z7, rfl⟩ := int_at 7 c7 (by omega) rfl
    obtain ⟨y8, hy8, _⟩ := hy 8 (by omega)
    have k8 := hg 8 f8 g8
    simp only [Value.cells] at k8
    rw [o8, t8, cells_bool, hy8] at k8
    obtain ⟨q, e8, _⟩ := DataW.trod_bool Tryd.underlying4 (show DataW.trod enc Tryd.prog w base spare held n 4 [c8] = some y8 from k8)
    injection e8 with e8
    subst e8
    obtain ⟨y9, hy9, b9⟩ := hy 9 (by omega)
    have k9 := hg 9 f9 g9
    simp only [Value.cells] at k9
    rw [o9, t9, cells_sl _ (.inr (.inr rfl)), hy9] at k9
    obtain ⟨Ae, ce, es, e9, r9, l9, m9⟩ := open_rents (show DataW.trod enc Tryd.prog w base spare held n 22 [c9] = some y9 from k9) b9
    injection e9 with e9
    subst e9
    obtain ⟨ya, hya, ba⟩ := hy 10 (by omega)
    have ka := hg 10 fa ga
    simp only [Value.cells] at ka
    rw [oa, ta, cells_snap, hya] at ka
    obtain ⟨i, t, An, cn, ln, Ad, cd', ld, rfl, rfl, rfl, rfl, q1, q2, q3, q4, q5, q6⟩ := open_rsnap (show DataW.trod enc Tryd.prog w base spare held n 26 [ca, cb, cc, cd] = some ya from ka) ba
    exact ⟨⟨z0, z1, z2, z3, z4, z5, z6, z7, q, es, ⟨i, t, ln, ld⟩⟩, ⟨Ae, An, Ad, ce, cn, cd'⟩, rfl, ⟨r9, q1, q2, l9, q3, q4, by simp only; omega, by simp only; omega, by simp only; omega⟩⟩
end
end Go.Proofs.YtmgandacmhkndaaDoor
