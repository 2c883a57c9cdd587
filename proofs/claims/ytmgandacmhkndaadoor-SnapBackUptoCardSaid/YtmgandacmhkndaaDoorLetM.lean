/- Letters, entries and snapshots in memory. No program. No conditions. -/
import Derived.Test.YtmgandacmhkndaaDoorMem
import Derived.Test.YtmgandacmhkndaaDoorLet
namespace Go.Proofs.YtmgandacmhkndaaDoor
open Go.RowKit

/-- The lists of an entry, in memory. -/
structure EntRd (w : World) (e : Ent) (Ad An : Option Addr) (cd cn : Nat) : Prop where
  data : Rd w Ad (bvs e.data)
  nodes : Rd w An (ivs e.nodes)
  dc : e.data.length ≤ cd
  nc : e.nodes.length ≤ cn
  dl : e.data.length ≤ 140737488355328
  nl : e.nodes.length ≤ 140737488355328
theorem EntRd.keep {w w' : World} {e : Ent} {Ad An : Option Addr} {cd cn : Nat} (h : EntRd w e Ad An cd cn) (hk : ∀ a v, w.cell? a = some v → w'.cell? a = some v) : EntRd w' e Ad An cd cn :=
  ⟨h.data.keep hk, h.nodes.keep hk, h.dc, h.nc, h.dl, h.nl⟩
/-- The five cells of an entry at an address. -/
def EntAt (w : World) (a : Addr) (e : Ent) (Ad An : Option Addr) (cd cn : Nat) : Prop :=
  w.cell? a = some (.int .i64 e.index) ∧ w.cell? ⟨a.block, a.off + 1, none⟩ = some (.int .i64 e.term) ∧ w.cell? ⟨a.block, a.off + 2, none⟩ = some (.int .i64 e.kind) ∧
  w.cell? ⟨a.block, a.off + 3, none⟩ = some (.slice Ad e.data.length cd) ∧ w.cell? ⟨a.block, a.off + 4, none⟩ = some (.slice An e.nodes.length cn)
theorem EntAt.keep {w w' : World} {a : Addr} {e : Ent} {Ad An : Option Addr} {cd cn : Nat} (h : EntAt w a e Ad An cd cn) (hk : ∀ a v, w.cell? a = some v → w'.cell? a = some v) : EntAt w' a e Ad An cd cn :=
  ⟨hk _ _ h.1, hk _ _ h.2.1, hk _ _ h.2.2.1, hk _ _ h.2.2.2.1, hk _ _ h.2.2.2.2⟩
/-- A slice of entries. -/
def REnts (w : World) (A : Option Addr) (es : List Ent) : Prop :=
  es = [] ∨ ∃ ad, A = some ad ∧ ∀ j (h : j < es.length), ∃ Ad An cd cn, EntRd w es[j] Ad An cd cn ∧ EntAt w (ad.add (j * 5)) es[j] Ad An cd cn
theorem REnts.keep {w w' : World} {A : Option Addr} {es : List Ent} (h : REnts w A es) (hk : ∀ a v, w.cell? a = some v → w'.cell? a = some v) : REnts w' A es := by
  rcases h with h | ⟨ad, rfl, h⟩
  · exact .inl h
  · refine .inr ⟨ad, rfl, fun j hj => ?_⟩
    obtain ⟨Ad, An, cd, cn, h1, h2⟩ := h j hj
    exact ⟨Ad, An, cd, cn, h1.keep hk, h2.keep hk⟩
theorem REnts.below {w w' : World} {A : Option Addr} {es : List Ent} (h : REnts w A es) (hb : Below w.heap.size w w') : REnts w' A es := h.keep fun _ _ hc => cell_keep hb hc
theorem REnts.at_ {w : World} {A : Option Addr} {es : List Ent} (h : REnts w A es) {k : Nat} (hk : k < es.length) :
    ∃ ad Ad An cd cn, A = some ad ∧ EntRd w es[k] Ad An cd cn ∧ EntAt w (ad.add (k * 5)) es[k] Ad An cd cn := by
  rcases h with h | ⟨ad, rfl, h⟩
  · subst h; simp at hk
  · obtain ⟨Ad, An, cd, cn, h1, h2⟩ := h k hk
    exact ⟨ad, Ad, An, cd, cn, rfl, h1, h2⟩
/-- A letter's lists: entries, the snapshot's nodes and data; with the slices' capacities. -/
structure LMem where
  Ae : Option Addr
  An : Option Addr
  Ad : Option Addr
  ce : Nat
  cn : Nat
  cd : Nat
structure LetRd (w : World) (m : Let) (x : LMem) : Prop where
  ents : REnts w x.Ae m.ents
  nodes : Rd w x.An (ivs m.snap.nodes)
  data : Rd w x.Ad (bvs m.snap.data)
  ec : m.ents.length ≤ x.ce
  nc : m.snap.nodes.length ≤ x.cn
  dc : m.snap.data.length ≤ x.cd
  el : m.ents.length ≤ 140737488355328
  nl : m.snap.nodes.length ≤ 140737488355328
  dl : m.snap.data.length ≤ 140737488355328
theorem LetRd.keep {w w' : World} {m : Let} {x : LMem} (h : LetRd w m x) (hk : ∀ a v, w.cell? a = some v → w'.cell? a = some v) : LetRd w' m x :=
  ⟨h.ents.keep hk, h.nodes.keep hk, h.data.keep hk, h.ec, h.nc, h.dc, h.el, h.nl, h.dl⟩
theorem LetRd.below {w w' : World} {m : Let} {x : LMem} (h : LetRd w m x) (hb : Below w.heap.size w w') : LetRd w' m x := h.keep fun _ _ hc => cell_keep hb hc
/-- The cells of a letter. -/
def lcells (m : Let) (x : LMem) : Array Value :=
  #[.int .i64 m.kind, .int .i64 m.from_, .int .i64 m.to_, .int .i64 m.term, .int .i64 m.index, .int .i64 m.logTerm, .int .i64 m.commit, .int .i64 m.round, .bool m.ok,
    .slice x.Ae m.ents.length x.ce, .int .i64 m.snap.index, .int .i64 m.snap.term, .slice x.An m.snap.nodes.length x.cn, .slice x.Ad m.snap.data.length x.cd]
end Go.Proofs.YtmgandacmhkndaaDoor
