/- Letters, entries and snapshots as plain data; which are right; no program. No conditions. -/
import Derived.PlainAid
namespace Go.Proofs.YtmgandacmhkndaaDoor

structure Ent where
  index : Int
  term : Int
  kind : Int
  data : List UInt8
  nodes : List Int
deriving DecidableEq
structure Snp where
  index : Int
  term : Int
  nodes : List Int
  data : List UInt8
deriving DecidableEq
structure Let where
  kind : Int
  from_ : Int
  to_ : Int
  term : Int
  index : Int
  logTerm : Int
  commit : Int
  round : Int
  ok : Bool
  ents : List Ent
  snap : Snp
deriving DecidableEq

def btw (n lo hi : Int) : Bool := decide (lo ≤ n ∧ n ≤ hi)
theorem btw_true {n lo hi : Int} : btw n lo hi = true ↔ lo ≤ n ∧ n ≤ hi := by simp [btw]
theorem btw_false {n lo hi : Int} : btw n lo hi = false ↔ ¬ (lo ≤ n ∧ n ≤ hi) := by simp only [btw, decide_eq_false_iff_not]

def grpFrom : Int → List Int → Bool
  | _, [] => true
  | p, x :: r => decide (1 ≤ x ∧ x ≤ 5 ∧ p < x) && grpFrom x r
def grp (l : List Int) : Bool := grpFrom 0 l && !l.isEmpty
theorem grp_step (l : List Int) (p : Int) (k : Nat) (hk : k < l.length) :
    grpFrom p (l.drop k) = (decide (1 ≤ l[k] ∧ l[k] ≤ 5 ∧ p < l[k]) && grpFrom l[k] (l.drop (k+1))) := by
  rw [List.drop_eq_getElem_cons hk]; rfl
def prev (l : List Int) (k : Nat) : Int := if k = 0 then 0 else l.getD (k-1) 0
theorem prev_succ (l : List Int) (k : Nat) (hk : k < l.length) : prev l (k+1) = l[k] := by
  simp [prev, hk]

def entOk (e : Ent) : Bool :=
  btw e.index 1 999999 && btw e.term 1 999999 && decide (e.data.length ≤ 8000) &&
    (if e.kind = 0 then decide (e.data.length = 0 ∧ e.nodes.length = 0) else if e.kind = 1 then decide (e.nodes.length = 0) else if e.kind = 2 then grp e.nodes && decide (e.data.length = 0) else false)

/-- Entries that go on from an Index, with terms that do not fall. -/
def entsFrom (top : Int) : Int → Int → List Ent → Bool
  | _, _, [] => true
  | i, t, e :: r => entOk e && decide (e.index = i) && btw e.term t top && entsFrom top (i + 1) e.term r

def hdrOk (m : Let) : Bool := btw m.from_ 1 5 && btw m.to_ 1 5 && !decide (m.from_ = m.to_) && btw m.term 1 999999
def numOk (m : Let) : Bool := btw m.index 0 999999 && btw m.round 0 1073741824 && btw m.logTerm 0 m.term && btw m.commit 0 999999
def noSnap (x : Snp) : Bool := decide (x.index = 0 ∧ x.term = 0 ∧ x.nodes.length = 0 ∧ x.data.length = 0)
def rightK (m : Let) : Bool :=
  if m.kind = 1 then decide (m.ents.length = 0) && noSnap m.snap && decide (m.commit = 0 ∧ m.round = 0 ∧ m.ok = false)
  else if m.kind = 2 then decide (m.ents.length = 0) && noSnap m.snap && decide (m.index = 0 ∧ m.logTerm = 0 ∧ m.commit = 0 ∧ m.round = 0)
  else if m.kind = 3 then entsFrom m.term (m.index + 1) m.logTerm m.ents && decide (m.ents.length ≤ 4) && noSnap m.snap && !m.ok
  else if m.kind = 4 then decide (m.ents.length = 0) && noSnap m.snap && decide (m.logTerm = 0 ∧ m.commit = 0)
  else if m.kind = 5 then decide (m.ents.length = 0) && (btw m.snap.index 1 999998 && btw m.snap.term 0 m.term && grp m.snap.nodes && decide (m.snap.data.length ≤ 300000)) && decide (m.index = 0 ∧ m.logTerm = 0 ∧ m.commit = 0 ∧ m.ok = false)
  else false
def rightB (m : Let) : Bool := hdrOk m && numOk m && rightK m
end Go.Proofs.YtmgandacmhkndaaDoor
