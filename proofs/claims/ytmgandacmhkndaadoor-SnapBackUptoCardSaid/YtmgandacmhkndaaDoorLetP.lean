/- What wire's reader reads as a letter: a plain function; and letters in memory that the call made. No walk. No conditions. -/
import Derived.Test.YtmgandacmhkndaaDoorRdrT
import Derived.Test.YtmgandacmhkndaaDoorLetM
namespace Go.Proofs.YtmgandacmhkndaaDoor
open Go.RowKit
set_option linter.unusedSimpArgs false

def bnd {α β : Type} (x : Except Nat (α × Nat)) (f : α → Nat → Except Nat β) : Except Nat β :=
  match x with
  | .error p => .error p
  | .ok (v, a) => f v a
@[simp] theorem bnd_ok {α β : Type} (v : α) (a : Nat) (f : α → Nat → Except Nat β) : bnd (.ok (v, a)) f = f v a := rfl
@[simp] theorem bnd_err {α β : Type} (p : Nat) (f : α → Nat → Except Nat β) : bnd (.error p) f = .error p := rfl

def entBody (b : List UInt8) (i : Int) (t k : Nat) (a : Nat) : Except Nat (Ent × Nat) :=
  if k = 1 then bnd (rtext b 8000 a) fun d a => .ok (⟨i, t, k, d, []⟩, a)
  else if k = 2 then bnd (rnodes b a) fun l a => .ok (⟨i, t, k, [], l.map Int.ofNat⟩, a)
  else .ok (⟨i, t, k, [], []⟩, a)
def rent (b : List UInt8) (i : Int) (a : Nat) : Except Nat (Ent × Nat) :=
  bnd (rnum b 999999 a) fun t a => bnd (rnum b 2 a) fun k a => entBody b i t k a
def rents (b : List UInt8) (i : Int) : Nat → Nat → Except Nat (List Ent × Nat)
  | 0, a => .ok ([], a)
  | k + 1, a => bnd (rent b i a) fun e a => bnd (rents b (i + 1) k a) fun l a => .ok (e :: l, a)
def noSnp : Snp := ⟨0, 0, [], []⟩
def letBody (b : List UInt8) (k f t tm a : Nat) : Except Nat (Let × Nat) :=
  if k = 0 then .error 0
  else if k = 1 then bnd (rnum b 999999 a) fun i a => bnd (rnum b 999999 a) fun l a => .ok (⟨k, f, t, tm, i, l, 0, 0, false, [], noSnp⟩, a)
  else if k = 2 then bnd (rnum b 1 a) fun o a => .ok (⟨k, f, t, tm, 0, 0, 0, 0, ((o : Int) == 1), [], noSnp⟩, a)
  else if k = 4 then bnd (rnum b 1 a) fun o a => bnd (rnum b 999999 a) fun i a => bnd (rnum b 1073741824 a) fun r a => .ok (⟨k, f, t, tm, i, 0, 0, r, ((o : Int) == 1), [], noSnp⟩, a)
  else if k = 5 then bnd (rnum b 999999 a) fun i a => bnd (rnum b 999999 a) fun s a => bnd (rnodes b a) fun l a => bnd (rtext b 300000 a) fun d a => bnd (rnum b 1073741824 a) fun r a =>
    .ok (⟨k, f, t, tm, 0, 0, 0, r, false, [], ⟨i, s, l.map Int.ofNat, d⟩⟩, a)
  else bnd (rnum b 999999 a) fun i a => bnd (rnum b 999999 a) fun l a => bnd (rnum b 999999 a) fun c a => bnd (rnum b 1073741824 a) fun r a => bnd (rnum b 4 a) fun n a =>
    bnd (rents b ((i : Int) + 1) n a) fun es a => .ok (⟨k, f, t, tm, i, l, c, r, false, es, noSnp⟩, a)
def letF (b : List UInt8) (a : Nat) : Except Nat (Let × Nat) :=
  bnd (rnum b 5 a) fun k a => bnd (rnum b 5 a) fun f a => bnd (rnum b 5 a) fun t a => bnd (rnum b 999999 a) fun tm a => letBody b k f t tm a

/-- An entry's slices. -/
structure EM where
  Ad : Option Addr
  An : Option Addr
  cd : Nat
  cn : Nat
def ecell (p : Ent × EM) : List Value :=
  [.int .i64 p.1.index, .int .i64 p.1.term, .int .i64 p.1.kind, .slice p.2.Ad p.1.data.length p.2.cd, .slice p.2.An p.1.nodes.length p.2.cn]
def ecells (l : List (Ent × EM)) : List Value := l.flatMap ecell
theorem ecells_len (l : List (Ent × EM)) : (ecells l).length = l.length * 5 := by
  induction l with
  | nil => rfl
  | cons p r ih => simp only [ecells, List.flatMap_cons, List.length_append, List.length_cons] at ih ⊢; rw [ih]; simp [ecell]; omega
theorem ecells_at (l : List (Ent × EM)) : ∀ (j i : Nat) (hj : j < l.length), i < 5 → (ecells l)[j * 5 + i]? = (ecell l[j])[i]? := by
  induction l with
  | nil => intro j i hj; simp at hj
  | cons p r ih =>
    intro j i hj hi
    have hl : (ecell p).length = 5 := rfl
    rcases j with _ | j
    · simp only [ecells, List.flatMap_cons, Nat.zero_mul, Nat.zero_add, List.getElem_cons_zero]
      rw [List.getElem?_append_left (by omega)]
    · simp only [ecells, List.flatMap_cons, List.getElem_cons_succ]
      rw [List.getElem?_append_right (by omega), hl, show (j + 1) * 5 + i - 5 = j * 5 + i by omega]
      exact ih j i (by simpa using hj) hi
/-- An entry that the call made. -/
structure EntF (w : World) (base : Nat) (p : Ent × EM) : Prop where
  fresh : FreshD w base p.2.Ad p.1.data
  nodes : w.ownsRow base 3 1 (.slice p.2.An p.1.nodes.length p.2.cn) p.1.nodes.length (ivs p.1.nodes)
  dc : p.1.data.length ≤ p.2.cd
  dl : p.1.data.length ≤ 140737488355328
  nl : p.1.nodes.length ≤ 140737488355328
theorem EntF.rd {w : World} {base : Nat} {p : Ent × EM} (h : EntF w base p) : EntRd w p.1 p.2.Ad p.2.An p.2.cd p.2.cn := by
  refine ⟨h.fresh.rd, Rd.of_own h.nodes, h.dc, ?_, h.dl, h.nl⟩
  obtain ⟨A, c, hv, hn, _⟩ := own_slice h.nodes
  injection hv with _ h2 h3
  omega
theorem EntF.keep {w w' : World} {base : Nat} {p : Ent × EM} (h : EntF w base p) (hb : Below w.heap.size w w') : EntF w' base p :=
  ⟨h.fresh.below hb, own_below h.nodes hb, h.dc, h.dl, h.nl⟩
theorem EntF.bare (w : World) (base : Nat) (i t k : Int) : EntF w base (⟨i, t, k, [], []⟩, ⟨none, none, 0, 0⟩) :=
  ⟨FreshD.none_ _ _, own_nil _ _ _ _, by simp, by simp, by simp⟩
/-- The entries that the call made, in a row of its own. -/
structure EntsF (w : World) (base : Nat) (v : Value) (l : List (Ent × EM)) : Prop where
  own : w.ownsRow base 45 5 v l.length (ecells l)
  each : ∀ p ∈ l, EntF w base p
theorem EntsF.nil_ (w : World) (base : Nat) : EntsF w base (.slice none 0 0) [] := ⟨own_nil _ _ _ _, by simp⟩
/-- The lists of a letter that the call made. -/
structure LetF (w : World) (base : Nat) (m : Let) (x : LMem) : Prop where
  ents : ∃ l : List (Ent × EM), m.ents = l.map (·.1) ∧ EntsF w base (.slice x.Ae m.ents.length x.ce) l
  nodes : OwnI w base (.slice x.An m.snap.nodes.length x.cn) m.snap.nodes
  data : FreshD w base x.Ad m.snap.data
  dc : m.snap.data.length ≤ x.cd
  el : m.ents.length ≤ 140737488355328
  nl : m.snap.nodes.length ≤ 140737488355328
  dl : m.snap.data.length ≤ 140737488355328
theorem EntsF.reads {w : World} {base : Nat} {A : Option Addr} {n c : Nat} {l : List (Ent × EM)} (h : EntsF w base (.slice A n c) l) : REnts w A (l.map (·.1)) := by
  rcases l with _ | ⟨p, r⟩
  · exact .inl rfl
  · obtain ⟨g, cap, hv, _, _⟩ := h.own.form (by simp)
    have hA : A = some ⟨g, 0, none⟩ := by injection hv
    subst hA
    have hc := h.own.cells (g := g) rfl
    refine .inr ⟨_, rfl, fun j hj => ?_⟩
    rw [List.length_map] at hj
    have he := h.each _ (List.getElem_mem hj)
    refine ⟨_, _, _, _, by rw [List.getElem_map]; exact he.rd, ?_⟩
    have hat : ∀ i u, i < 5 → (ecell (p :: r)[j])[i]? = some u → w.cell? ((⟨g, 0, none⟩ : Addr).add (j * 5 + i)) = some u := fun i u hi hu => hc _ u (by rw [ecells_at _ j i hj hi]; exact hu)
    have h0 := hat 0 _ (by omega) rfl
    have h1 := hat 1 _ (by omega) rfl
    have h2 := hat 2 _ (by omega) rfl
    have h3 := hat 3 _ (by omega) rfl
    have h4 := hat 4 _ (by omega) rfl
    rw [add_field _ _ _ (by omega)] at h1 h2 h3 h4
    rw [List.getElem_map]
    exact ⟨h0, h1, h2, h3, h4⟩
theorem LetF.rd {w : World} {base : Nat} {m : Let} {x : LMem} (h : LetF w base m x) : LetRd w m x := by
  obtain ⟨l, hl, he⟩ := h.ents
  have hn := h.nodes
  unfold OwnI at hn
  rw [List.length_map] at hn
  refine ⟨by rw [hl]; exact he.reads, Rd.of_own hn, h.data.rd, ?_, ?_, h.dc, h.el, h.nl, h.dl⟩
  · obtain ⟨A, c, hv, hn, _⟩ := own_slice he.own
    injection hv with _ h2 h3
    omega
  · obtain ⟨A, c, hv, hn, _⟩ := own_slice hn
    injection hv with _ h2 h3
    omega
theorem EntsF.below {w w' : World} {base : Nat} {v : Value} {l : List (Ent × EM)} (h : EntsF w base v l) (hb : Below w.heap.size w w') : EntsF w' base v l :=
  ⟨own_below h.own hb, fun p hp => (h.each p hp).keep hb⟩
theorem LetF.below {w w' : World} {base : Nat} {m : Let} {x : LMem} (h : LetF w base m x) (hb : Below w.heap.size w w') : LetF w' base m x := by
  obtain ⟨l, hl, he⟩ := h.ents
  exact ⟨⟨l, hl, he.below hb⟩, own_below h.nodes hb, h.data.below hb, h.dc, h.el, h.nl, h.dl⟩

theorem LetF.bare (w : World) (base : Nat) (m : Let) (h1 : m.ents = []) (h2 : m.snap = noSnp) : LetF w base m ⟨none, none, none, 0, 0, 0⟩ := by
  refine ⟨⟨[], by rw [h1]; rfl, ?_⟩, ?_, ?_, ?_, ?_, ?_, ?_⟩
  · rw [h1]; exact EntsF.nil_ w base
  · rw [h2]; exact own_nil _ _ _ _
  · rw [h2]; exact FreshD.none_ _ _
  all_goals first | (rw [h1]; simp) | (rw [h2]; simp [noSnp])
def LetterPost (b : List UInt8) (at_ g : Nat) (A : Option Addr) (c : Nat) (w : World) (e : Ending) (w' : World) : Prop :=
  w.grownBy w' (some g) ∧ ((∃ m a' x, letF b at_ = .ok (m, a') ∧ e = .returned (.agg (lcells m x)) ∧ Rdr w' g b a' A c ∧ LetF w' w.heap.size m x) ∨
    (∃ p, letF b at_ = .error p ∧ e = .panicked [{ v := .iface 83 (.int .i64 p), recovered := false }]))
end Go.Proofs.YtmgandacmhkndaaDoor
