/- wire.Encode, as plain data. -/
import Derived.Test.YtmgandacmhkndaaDoorLetM
import Derived.Test.YtmgandacmhkndaaDoorNum
namespace Go.Proofs.YtmgandacmhkndaaDoor
open Go.RowKit

def bit1 (b : Bool) : Nat := if b then 1 else 0
def encEnt (e : Ent) : List UInt8 :=
  vrs [e.term.toNat, e.kind.toNat] ++ (if e.kind = 1 then vrs [e.data.length] ++ e.data else if e.kind = 2 then vrs [e.nodes.length] ++ vrs (e.nodes.map Int.toNat) else [])
def encHead (m : Let) : List UInt8 := vrs [m.kind.toNat, m.from_.toNat, m.to_.toNat, m.term.toNat]
def encBody (m : Let) : List UInt8 :=
  if m.kind = 1 then vrs [m.index.toNat, m.logTerm.toNat]
  else if m.kind = 2 then vrs [bit1 m.ok]
  else if m.kind = 4 then vrs [bit1 m.ok, m.index.toNat, m.round.toNat]
  else if m.kind = 5 then vrs [m.snap.index.toNat, m.snap.term.toNat, m.snap.nodes.length] ++ vrs (m.snap.nodes.map Int.toNat) ++ vrs [m.snap.data.length] ++ m.snap.data ++ vrs [m.round.toNat]
  else vrs [m.index.toNat, m.logTerm.toNat, m.commit.toNat, m.round.toNat, m.ents.length] ++ m.ents.flatMap encEnt
/-- What Encode writes, of a right letter. -/
def encF (m : Let) : List UInt8 := encHead m ++ encBody m
end Go.Proofs.YtmgandacmhkndaaDoor
