/- Words for memory, without any program: a slice's cells read as a list (Rd), a block known whole (Blk), a row of the call's own that is appended to (Own, App). No conditions. -/
import Derived.Below
import Derived.Laws.OwnMore
import Derived.Deep.AppendLies
import Derived.Deep.Draws
import Derived.Deep.LoopGhost
import Derived.Maps.AppendAt
import Derived.OwnWalk
import Derived.Lib.Hide
import Derived.ArgAppend
namespace Go.Proofs.YtmgandacmhkndaaDoor
open Go.RowKit

theorem alloc_size (w : World) (o : Obj) : (w.alloc o).heap.size = w.heap.size + 1 := by simp
theorem block_of_add (a : Addr) (n : Nat) : (a.add n).block = a.block := by unfold Addr.add; split <;> rfl
theorem add_of_add (a : Addr) (i j : Nat) : (a.add i).add j = a.add (i + j) := by
  unfold Addr.add
  by_cases hi : i = 0 <;> by_cases hj : j = 0 <;> simp [hi, hj, Nat.add_assoc]
theorem add_field (ad : Addr) (m j : Nat) (hj : 0 < j) : ad.add (m + j) = ⟨(ad.add m).block, (ad.add m).off + j, none⟩ := by
  rw [← add_of_add]; unfold Addr.add; simp [show j ≠ 0 by omega]
theorem add_lit (g j : Nat) : (⟨g, 0, none⟩ : Addr).add j = ⟨g, j, none⟩ := by unfold Addr.add; split <;> simp_all

/-- Cells. -/
def Rd (w : World) (A : Option Addr) (xs : List Value) : Prop :=
  xs = [] ∨ ∃ ad, A = some ad ∧ ∀ j u, xs[j]? = some u → w.cell? (ad.add j) = some u
def iv (n : Int) : Value := .int .i64 n
def bv (b : UInt8) : Value := .int .u8 (b.toNat : Int)
abbrev ivs (l : List Int) : List Value := l.map iv
abbrev bvs (l : List UInt8) : List Value := l.map bv

theorem cell_keep {w w' : World} (hb : Below w.heap.size w w') {a : Addr} {v : Value} (h : w.cell? a = some v) : w'.cell? a = some v :=
  (hb.cell (World.block_lt_of_cell? w a h)).trans h
section
variable {w w' : World} {A : Option Addr} {xs : List Value}
theorem Rd.nil_ (w : World) (A : Option Addr) : Rd w A [] := .inl rfl
theorem Rd.keep (h : Rd w A xs) (hk : ∀ a v, w.cell? a = some v → w'.cell? a = some v) : Rd w' A xs := by
  rcases h with h | ⟨ad, rfl, h⟩
  · exact .inl h
  · exact .inr ⟨ad, rfl, fun j u hu => hk _ _ (h j u hu)⟩
theorem Rd.below (h : Rd w A xs) (hb : Below w.heap.size w w') : Rd w' A xs := h.keep fun _ _ hc => cell_keep hb hc
theorem Rd.drew (h : Rd w A xs) : Rd w.drew A xs := h
theorem Rd.drewN (h : Rd w A xs) (k : Nat) : Rd (w.drewN k) A xs := h
theorem Rd.alloc (h : Rd w A xs) (o : Obj) : Rd (w.alloc o) A xs := h.below ((Below.refl _ _).alloc (Nat.le_refl _) o)
theorem Rd.at_ (h : Rd w A xs) {k : Nat} (hk : k < xs.length) : ∃ ad, A = some ad ∧ ∀ j u, xs[j]? = some u → w.cell? (ad.add j) = some u := by
  rcases h with h | h
  · subst h; simp at hk
  · exact h
theorem Rd.cut (h : Rd w A xs) {k cap : Nat} (hc : xs.length ≤ cap) : Rd w (if cap = k then A else A.map (·.add k)) (xs.drop k) := by
  rcases h with h | ⟨ad, rfl, h⟩
  · subst h; exact .inl (by simp)
  · by_cases hk : cap = k
    · exact .inl (List.drop_of_length_le (by omega))
    · rw [if_neg hk]
      exact .inr ⟨ad.add k, rfl, fun j u hu => by rw [add_of_add]; exact h _ u (by rw [← hu, List.getElem?_drop])⟩
theorem Rd.take_ (h : Rd w A xs) (k : Nat) : Rd w A (xs.take k) := by
  rcases h with h | ⟨ad, rfl, h⟩
  · subst h; exact .inl (by simp)
  · exact .inr ⟨ad, rfl, fun j u hu => h j u (by rw [List.getElem?_take] at hu; split at hu <;> simp_all)⟩
theorem Rd.of_own {base : Nat} {e : TypeId} {n c : Nat} (h : w.ownsRow base e 1 (.slice A n c) n xs) : Rd w A xs := by
  rcases Nat.eq_zero_or_pos n with h0 | h0
  · exact .inl (List.eq_nil_of_length_eq_zero (by have := h.1; omega))
  · obtain ⟨g, cap, hv, _, hlt⟩ := h.form h0
    have hA : A = some ⟨g, 0, none⟩ := by injection hv
    subst hA
    exact .inr ⟨_, rfl, h.cells (g := g) rfl⟩
theorem Rd.int {l : List Int} (h : Rd w A (ivs l)) {k : Nat} (hk : k < l.length) :
    ∃ ad, A = some ad ∧ ∀ j (hj : j < l.length), w.cell? (ad.add j) = some (.int .i64 l[j]) := by
  obtain ⟨ad, e, hc⟩ := h.at_ (k := k) (by simpa using hk)
  exact ⟨ad, e, fun j hj => hc j _ (by simp [iv, hj])⟩
theorem Rd.byte {l : List UInt8} (h : Rd w A (bvs l)) {k : Nat} (hk : k < l.length) :
    ∃ ad, A = some ad ∧ ∀ j (hj : j < l.length), w.cell? (ad.add j) = some (.int .u8 ((l[j]).toNat : Int)) := by
  obtain ⟨ad, e, hc⟩ := h.at_ (k := k) (by simpa using hk)
  exact ⟨ad, e, fun j hj => hc j _ (by simp [bv, hj])⟩
end

/-- A block known whole. -/
def Blk (w : World) (g : Nat) (t : TypeId) (cs : Array Value) : Prop := w.heap[g]? = some (.cells cs t (0, 0))
section
variable {w w' : World} {g : Nat} {t : TypeId} {cs : Array Value}
theorem Blk.lt (h : Blk w g t cs) : g < w.heap.size := by
  rcases Nat.lt_or_ge g w.heap.size with hlt | hge
  · exact hlt
  · unfold Blk at h; rw [Array.getElem?_eq_none hge] at h; cases h
theorem Blk.cell (h : Blk w g t cs) (i : Nat) : w.cell? ⟨g, i, none⟩ = cs[i]? := cell_of_row w g i cs t (0, 0) h
theorem Blk.cells (h : Blk w g t cs) : ∀ i, w.cell? ⟨g, i, none⟩ = cs[i]? := h.cell
theorem Blk.frozen (h : Blk w g t cs) : ∀ i, w.frozen? ⟨g, i, none⟩ = false := by
  intro i
  unfold Blk at h
  simp [World.frozen?, h]
theorem Blk.new (w : World) (t : TypeId) (cs : Array Value) : Blk (w.alloc (.cells cs t)) w.heap.size t cs := heap_alloc_new w _
theorem Blk.drew (h : Blk w g t cs) : Blk w.drew g t cs := h
theorem Blk.drewN (h : Blk w g t cs) (n : Nat) : Blk (w.drewN n) g t cs := h
theorem Blk.alloc (h : Blk w g t cs) (o : Obj) : Blk (w.alloc o) g t cs := (Below.heap_alloc w o g h.lt).trans h
theorem Blk.set_ (h : Blk w g t cs) (i : Nat) (u : Value) : Blk (w.setCell ⟨g, i, none⟩ u) g t (cs.setIfInBounds i u) := by
  unfold Blk at h ⊢
  simp [World.setCell, Array.getElem?_modify, h]
theorem Blk.far (h : Blk w g t cs) {p : Addr} (hp : g ≠ p.block) (u : Value) : Blk (w.setCell p u) g t cs := (Below.heap_setCell w p u g hp).trans h
theorem Blk.below {B : Nat} (h : Blk w g t cs) (hb : Below B w w') (hg : g < B) : Blk w' g t cs := (hb.block g hg).trans h
theorem Blk.keep (h : Blk w g t cs) (hb : Below w.heap.size w w') : Blk w' g t cs := h.below hb h.lt
theorem Blk.grown {row : Option Nat} (h : Blk w g t cs) (hb : w.grownBy w' row) (hg : some g ≠ row) : Blk w' g t cs := (hb.block g h.lt hg).trans h
theorem Blk.ne_ {g' : Nat} {t' : TypeId} {cs' : Array Value} (h : Blk w g t cs) (h' : Blk w g' t' cs') (hne : t ≠ t') : g ≠ g' := by
  rintro rfl
  unfold Blk at h h'
  rw [h] at h'
  injection h' with h'
  injection h' with _ ht
  exact hne ht
theorem own_blk_ne {base : Nat} {e : TypeId} {size n : Nat} {v : Value} {xs : List Value} (h : w.ownsRow base e size v n xs) (hg : Blk w g t cs) (hne : e ≠ t) : v.ownBlock ≠ some g := by
  rcases h.2 with ⟨rfl, _⟩ | ⟨g', cap, cur, rfl, _, hh, _⟩
  · simp [Value.ownBlock]
  · intro he
    have : g' = g := by simpa [Value.ownBlock] using he
    subst this
    exact Blk.ne_ (t := e) hh hg hne rfl
theorem Blk.app (h : Blk w g t cs) {base : Nat} {e : TypeId} {size n : Nat} {v : Value} {xs : List Value} (ho : w.ownsRow base e size v n xs) (hb : w.grownBy w' v.ownBlock) (hne : e ≠ t) : Blk w' g t cs :=
  h.grown hb (fun e => own_blk_ne ho h hne e.symm)
end

/-! Below, and what follows from it for another world. -/
theorem below_drewN {B : Nat} {a w : World} (h : Below B a w) (n : Nat) : Below B a (w.drewN n) := ⟨h.os, h.tape, h.output, h.size, h.block⟩
theorem below_all {w w' : World} (h : Below w.heap.size w w') (B : Nat) (hB : B ≤ w.heap.size) : Below B w w' := h.mono hB
theorem below_then {w a b : World} {B : Nat} (h : Below B w a) (hB : B ≤ a.heap.size) (k : Below a.heap.size a b) : Below B w b := h.trans (k.mono hB)
theorem grown_below {w w' : World} {row : Option Nat} {B : Nat} (h : w.grownBy w' row) (hB : B ≤ w.heap.size) (hr : ∀ k, row = some k → B ≤ k) : Below B w w' := (Below.refl _ _).grown h hB hr

/-- What an append leaves: the new row, only the old row's block has turned, where the new one lies. -/
structure App (e : TypeId) (base : Nat) (w : World) (v : Value) (w' : World) (v' : Value) (zs : List Value) : Prop where
  own : w'.ownsRow base e 1 v' zs.length zs
  grown : w.grownBy w' v.ownBlock
  lies : v'.ownBlock = v.ownBlock ∨ ∃ b, v'.ownBlock = some b ∧ w.heap.size ≤ b
theorem own_base {w : World} {base : Nat} {e : TypeId} {size n : Nat} {v : Value} {xs : List Value} (h : w.ownsRow base e size v n xs) (k : Nat) (hk : v.ownBlock = some k) : base ≤ k := (h.lt k hk).1
theorem App.refl {e : TypeId} {base : Nat} {w : World} {v : Value} {zs : List Value} (h : w.ownsRow base e 1 v zs.length zs) : App e base w v w v zs :=
  ⟨h, World.grownBy.refl w _, .inl rfl⟩
theorem App.trans {e : TypeId} {base : Nat} {w w1 w2 : World} {v v1 v2 : Value} {xs ys : List Value} (h : App e base w v w1 v1 xs) (k : App e base w1 v1 w2 v2 ys) : App e base w v w2 v2 ys := by
  refine ⟨k.own, ⟨k.grown.os.trans h.grown.os, k.grown.tape.trans h.grown.tape, k.grown.output.trans h.grown.output, Nat.le_trans h.grown.size k.grown.size, fun i hi hne => ?_⟩, ?_⟩
  · rw [k.grown.block i (Nat.lt_of_lt_of_le hi h.grown.size) ?_, h.grown.block i hi hne]
    rcases h.lies with e1 | ⟨b, e1, hb⟩
    · rw [e1]; exact hne
    · rw [e1]; intro e2; injection e2 with e2; omega
  · rcases k.lies with e1 | ⟨b, e1, hb⟩
    · rw [e1]; exact h.lies
    · exact .inr ⟨b, e1, Nat.le_trans h.grown.size hb⟩
theorem App.below {e : TypeId} {base B : Nat} {w w' : World} {v v' : Value} {zs xs : List Value} {n : Nat} (h : App e base w v w' v' zs) (ho : w.ownsRow base e 1 v n xs) (hB : B ≤ w.heap.size) (hb : B ≤ base) : Below B w w' :=
  grown_below h.grown hB fun k hk => Nat.le_trans hb (own_base ho k hk)
/-- New blocks and draws ahead of an append. -/
theorem App.alloc {e : TypeId} {base : Nat} {w w' : World} {v v' : Value} {zs : List Value} {o : Obj} (h : App e base (w.alloc o) v w' v' zs) : App e base w v w' v' zs :=
  ⟨h.own, World.grownBy.trans (World.grownBy_alloc w o _) h.grown, by rcases h.lies with e | ⟨b, e, hb⟩; exact .inl e; exact .inr ⟨b, e, by simp at hb; omega⟩⟩
theorem App.drewN {e : TypeId} {base : Nat} {w w' : World} {v v' : Value} {zs : List Value} {n : Nat} (h : App e base (w.drewN n) v w' v' zs) : App e base w v w' v' zs :=
  ⟨h.own, ⟨h.grown.os, h.grown.tape, h.grown.output, h.grown.size, h.grown.block⟩, h.lies⟩
theorem App.cell {e : TypeId} {base : Nat} {w w' : World} {v v' : Value} {zs : List Value} (h : App e base w v w' v' zs) {a : Addr} (hne : v.ownBlock ≠ some a.block) {u : Value} (hc : w.cell? a = some u) : w'.cell? a = some u :=
  h.grown.cell hc (fun e => hne e.symm)
theorem App.rd {e : TypeId} {base : Nat} {w w' : World} {v v' : Value} {zs : List Value} (h : App e base w v w' v' zs) {A : Option Addr} (hne : ∀ ad, A = some ad → v.ownBlock ≠ some ad.block) {xs : List Value} (hr : Rd w A xs) : Rd w' A xs := by
  rcases hr with hr | ⟨ad, rfl, hr⟩
  · exact .inl hr
  · exact .inr ⟨ad, rfl, fun j u hu => h.cell (by rw [block_of_add]; exact hne ad rfl) (hr j u hu)⟩
theorem own_nil (W : World) (base : Nat) (e : TypeId) (size : Nat) : W.ownsRow base e size (.slice none 0 0) 0 [] := ⟨by simp, .inl ⟨rfl, rfl⟩⟩
theorem own_slice {w : World} {base n : Nat} {e : TypeId} {size : Nat} {v : Value} {xs : List Value} (h : w.ownsRow base e size v n xs) : ∃ A c, v = .slice A n c ∧ n ≤ c ∧ c ≤ maxLen := by
  rcases h.2 with ⟨rfl, rfl⟩ | ⟨g, cap, cur, rfl, _, _, hn, hc, _⟩
  · exact ⟨none, 0, rfl, Nat.le_refl _, Nat.zero_le _⟩
  · exact ⟨_, _, rfl, hn, hc⟩
theorem own_weaken {w : World} {base base' : Nat} {e : TypeId} {size n : Nat} {v : Value} {xs : List Value} (h : w.ownsRow base e size v n xs) (hb : base' ≤ base) : w.ownsRow base' e size v n xs := by
  obtain ⟨h1, h2⟩ := h
  refine ⟨h1, ?_⟩
  rcases h2 with h2 | ⟨g, cap, cur, hv, hg, r⟩
  · exact .inl h2
  · exact .inr ⟨g, cap, cur, hv, by omega, r⟩
theorem own_below {w w' : World} {base n : Nat} {e : TypeId} {size : Nat} {v : Value} {xs : List Value} (h : w.ownsRow base e size v n xs) (hb : Below w.heap.size w w') : w'.ownsRow base e size v n xs := by
  obtain ⟨h1, h2⟩ := h
  refine ⟨h1, ?_⟩
  rcases h2 with h2 | ⟨g, cap, cur, hv, hg, hh, r⟩
  · exact .inl h2
  · exact .inr ⟨g, cap, cur, hv, hg, (hb.block g (Array.getElem?_eq_some_iff.1 hh).1).trans hh, r⟩
theorem own_drewN {w : World} {base n : Nat} {e : TypeId} {size : Nat} {v : Value} {xs : List Value} (h : w.ownsRow base e size v n xs) (k : Nat) : (w.drewN k).ownsRow base e size v n xs := h
theorem own_drew {w : World} {base n : Nat} {e : TypeId} {size : Nat} {v : Value} {xs : List Value} (h : w.ownsRow base e size v n xs) : w.drew.ownsRow base e size v n xs := h
theorem own_far {w : World} {base n : Nat} {e : TypeId} {size : Nat} {v : Value} {xs : List Value} (h : w.ownsRow base e size v n xs) {p : Addr} (hp : v.ownBlock ≠ some p.block) (u : Value) : (w.setCell p u).ownsRow base e size v n xs := by
  obtain ⟨h1, h2⟩ := h
  refine ⟨h1, ?_⟩
  rcases h2 with h2 | ⟨g, cap, cur, rfl, hg, hh, r⟩
  · exact .inl h2
  · exact .inr ⟨g, cap, cur, rfl, hg, (Below.heap_setCell w p u g (fun e => hp (by simp [Value.ownBlock, e]))).trans hh, r⟩

/-! The append of a slice that reads, whatever it is, onto a row of the call own; elements of one cell. -/
section
variable {P : Program} (w : World)
theorem run_append_of_nil (base : Nat) (t ty e : TypeId) (i : TypeInfo) (size : Nat) (ht : P.underlying t = some (.slice e)) (hi : P.info? e = some i)
    (v : Value) (n : Nat) (xs : List Value) (hown : w.ownsRow base e size v n xs) (c : Nat) : (Builtin.append_ #[t, t] ty #[v, .slice none 0 c]).run P w = .ok v w := by
  rcases hown.2 with ⟨rfl, rfl⟩ | ⟨g, cap, cur, rfl, _, _, hnc, _⟩
  · simp [Builtin.append_, run_underlying ht, sizeOf, typeInfo, hi, Builtin.lenOf, Builtin.firstCells]
  · simp [Builtin.append_, run_underlying ht, sizeOf, typeInfo, hi, Builtin.lenOf, Builtin.firstCells, hnc, storeCells]
theorem run_append_rd (base : Nat) (t ty e : TypeId) (z : Value) (bytes : Nat) (ht : P.underlying t = some (.slice e)) (hinfo : (P.info? e).map (fun i => (i.zero, i.size, i.bytes)) = some (some z, 1, bytes))
    (hzs : z.cells.size = 1)
    (v : Value) (xs : List Value) (hown : w.ownsRow base e 1 v xs.length xs)
    (A : Option Addr) (c : Nat) (ys : List Value) (hA : ys = [] → A = none ∨ ∃ a, A = some a) (hr : Rd w A ys) (h1 : ∀ u ∈ ys, u.oneCell' = true)
    (h63 : xs.length + ys.length ≤ maxLen) (hbytes : (xs.length + ys.length) * bytes ≤ 140737488355328) (hbase : base ≤ w.heap.size) :
    ∃ v' w', (Builtin.append_ #[t, t] ty #[v, .slice A ys.length c]).run P w = .ok v' w' ∧ App e base w v w' v' (xs ++ ys) := by
  obtain ⟨i, hi, hzz⟩ := Option.map_eq_some_iff.1 hinfo
  simp only [Prod.mk.injEq] at hzz
  obtain ⟨hz0, hz1, hz2⟩ := hzz
  rcases A with _ | ad
  · have hy : ys = [] := by
      rcases hr with h | ⟨ad, h, _⟩
      · exact h
      · cases h
    subst hy
    exact ⟨v, w, run_append_of_nil w base t ty e i 1 ht hi v _ xs hown c, by simpa using App.refl hown⟩
  · have hcells : ∀ j u, ys[j]? = some u → w.cell? (ad.add j) = some u := by
      rcases hr with h | ⟨ad', h, hc⟩
      · subst h; simp
      · injection h with h; subst h; exact hc
    obtain ⟨v', w', hrun, h2, h3, _, h5⟩ := run_append_own_at (P := P) w base t ty e i z 1 bytes ht hi hz0 hz1 hz2 hzs (by omega) v xs.length xs hown ad ys.length c ys (by simp) hcells h1 h63 hbytes hbase
    refine ⟨v', w', hrun, ⟨by rw [List.length_append]; exact h2, h3, ?_⟩⟩
    rcases h5 with h | h
    · exact .inl h
    · exact .inr ⟨_, h, Nat.le_refl _⟩
theorem wp_append_rd {o : Oper} {a : Act} {K : Act → World → Prop} {Q : Exit → Act → World → Prop} (s x : Operand) (t : TypeId)
    (ho : o.op = .call { callee := .builtin .append, args := #[s, x], argTypes := #[t, t] })
    (base : Nat) (e : TypeId) (z : Value) (bytes : Nat) (ht : P.underlying t = some (.slice e)) (hinfo : (P.info? e).map (fun i => (i.zero, i.size, i.bytes)) = some (some z, 1, bytes))
    (hzs : z.cells.size = 1) (v : Value) (xs : List Value) (A : Option Addr) (n c : Nat) (ys : List Value) (hs : a.eval s = v) (hx : a.eval x = .slice A n c) (hn : n = ys.length)
    (hown : w.ownsRow base e 1 v xs.length xs) (hr : Rd w A ys) (h1 : ∀ u ∈ ys, u.oneCell' = true)
    (h63 : xs.length + ys.length ≤ maxLen) (hbytes : (xs.length + ys.length) * bytes ≤ 140737488355328) (hbase : base ≤ w.heap.size)
    (h : ∀ v' w', App e base w v w' v' (xs ++ ys) → K (a.put o.dst v') w') : o.wp P a w K Q := by
  subst hn
  obtain ⟨v', w', hrun, h2⟩ := run_append_rd (P := P) w base t o.type e z bytes ht hinfo hzs v xs hown A c ys (fun _ => by cases A <;> simp) hr h1 h63 hbytes hbase
  unfold Oper.wp execOp
  simp only [ho, resolve, invoke, builtin, Sem.run_bind, Sem.run_pure, Result.andThen_ok, List.map_toArray, List.map_cons, List.map_nil, hs, hx, hrun]
  exact h v' w' h2
theorem wpList_append_rd {ops : Array Oper} {rest : List Oper} {o : Oper} {a : Act} {Q : Exit → Act → World → Prop} (hgd : o.guard = none) (s x : Operand) (t : TypeId)
    (ho : o.op = .call { callee := .builtin .append, args := #[s, x], argTypes := #[t, t] })
    (base : Nat) (e : TypeId) (z : Value) (bytes : Nat) (ht : P.underlying t = some (.slice e)) (hinfo : (P.info? e).map (fun i => (i.zero, i.size, i.bytes)) = some (some z, 1, bytes))
    (hzs : z.cells.size = 1) (v : Value) (xs : List Value) (A : Option Addr) (n c : Nat) (ys : List Value) (hs : a.eval s = v) (hx : a.eval x = .slice A n c) (hn : n = ys.length)
    (hown : w.ownsRow base e 1 v xs.length xs) (hr : Rd w A ys) (h1 : ∀ u ∈ ys, u.oneCell' = true)
    (h63 : xs.length + ys.length ≤ maxLen) (hbytes : (xs.length + ys.length) * bytes ≤ 140737488355328) (hbase : base ≤ w.heap.size)
    (h : ∀ v' w', App e base w v w' v' (xs ++ ys) → wpList P ops Q rest (a.put o.dst v') w') : wpList P ops Q (o :: rest) a w :=
  wpList_plain hgd fun _ hK => wp_append_rd w s x t ho base e z bytes ht hinfo hzs v xs A n c ys hs hx hn hown hr h1 h63 hbytes hbase fun v' w' h2 => hK _ _ (h v' w' h2)
theorem step_append_rd {ops : Array Oper} {o : Oper} {a : Act} {K : Act → World → Prop} {Q : Exit → Act → World → Prop} {E : Prop} (hgd : o.guard = none) (s x : Operand) (t : TypeId)
    (ho : o.op = .call { callee := .builtin .append, args := #[s, x], argTypes := #[t, t] })
    (base : Nat) (e : TypeId) (z : Value) (bytes : Nat) (ht : P.underlying t = some (.slice e)) (hinfo : (P.info? e).map (fun i => (i.zero, i.size, i.bytes)) = some (some z, 1, bytes))
    (hzs : z.cells.size = 1) (v : Value) (xs : List Value) (A : Option Addr) (n c : Nat) (ys : List Value) (hs : a.eval s = v) (hx : a.eval x = .slice A n c) (hn : n = ys.length)
    (hown : w.ownsRow base e 1 v xs.length xs) (hr : Rd w A ys) (h1 : ∀ u ∈ ys, u.oneCell' = true)
    (h63 : xs.length + ys.length ≤ maxLen) (hbytes : (xs.length + ys.length) * bytes ≤ 140737488355328) (hbase : base ≤ w.heap.size)
    (h : ∀ v' w', App e base w v w' v' (xs ++ ys) → K (a.put o.dst v') w') :
    if Region.wanted o (yielded ops a.tmps) = true then Oper.wp P o a w K Q else E := by
  have hw : Region.wanted o (yielded ops a.tmps) = true := by simp [Region.wanted, hgd]
  rw [if_pos hw]
  exact wp_append_rd w s x t ho base e z bytes ht hinfo hzs v xs A n c ys hs hx hn hown hr h1 h63 hbytes hbase h
end
theorem one_iv (l : List Int) : ∀ u ∈ ivs l, u.oneCell' = true := by intro u hu; simp [iv] at hu; obtain ⟨a, _, rfl⟩ := hu; rfl
theorem one_bv (l : List UInt8) : ∀ u ∈ bvs l, u.oneCell' = true := by intro u hu; simp [bv] at hu; obtain ⟨a, _, rfl⟩ := hu; rfl
/-- The cells of a block, as a slice. -/
theorem rd_blk {w : World} {g : Nat} {t : TypeId} {xs : List Value} (h : Blk w g t xs.toArray) : Rd w (some ⟨g, 0, none⟩) xs :=
  .inr ⟨_, rfl, fun j u hu => by rw [add_lit, h.cell j]; simpa using hu⟩

theorem ret_b {b c : Bool} (h : b = c) : Ending.returned (.bool b) = .returned (.bool c) := by rw [h]
theorem ret_i {k : IntKind} {a b : Int} (h : a = b) : Ending.returned (.int k a) = .returned (.int k b) := by rw [h]
end Go.Proofs.YtmgandacmhkndaaDoor
