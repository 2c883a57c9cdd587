/-
  NARROWER THAN 'FOR EVERY INPUT', by the rows' own cells (each row's printed sentence says how): WireWrites: laid · WireBack: laid · WireApart: laid · WireBounds: laid · SnapNumbers: laid · SnapBack: laid · SnapStores: laid · SnapApart: laid.
  DERIVED. THE GIVEN ROWS OF THIS SEAT. 8 by the template 'for every input the law returns true; each argument reads behind the call as it read before'; 0 by the template 'total and deterministic' (their statements: YtmgandacmhkndaaDoorTotals.lean).
  GIVEN WITH THE SEED: the statements are not yours to turn. If you find one false, say at which input.
  Laid BY PROGRAM, IN A SANDBOX (cutbox-rows.mjs): the forced cells as the released guide's own fill.sh prints them over the translation 9845b9c9c88739d8… (all of the seat's roots in one cut). By AI agents, Wed Nov 11 2026. No macro, syntax, notation, axiom, sorry.
-/
import Derived.Test.YtmgandacmhkndaaDoorChecked
import GoSem.Claim
import GoSem.ClaimJoined
import GoSem.ClaimMapViews
import Derived.JoinedTies
import Derived.KernelRfl
namespace Go.Proofs.YtmgandacmhkndaaDoor
/- THE CELL 'sum', in the pinned program and in every row, IS THE sha256 OF THE DUMP (.gsa) THAT YtmgandacmhkndaaDoorProg.lean LOADS. Nothing in Lean hashes anything: it is a label: what it is worth is what the hold of that sum in a sandbox is worth. -/
noncomputable def Tryd.pinned : Pinned := { name := "ytmgandacmhkndaadoor", sum := "9845b9c9c88739d8eb1bda1b1105c11172a3769180eb791f6f3728f527766b07", checked := Tryd.checked }
namespace Rows
def none {H : Type} : Left H := { results := [], args := [] }

/- WHAT THE LISTED PACKAGE-LEVEL VARIABLES READ AS WHEN THE CALL BEGINS. Each datum BY PROGRAM (the guide's laid-datum.mjs) off the statement by which the dump's own 'gosem.cut.vars' lays the variable. In a bare row this is a premise. The card (YtmgandacmhkndaaDoorCards.lean) ties it to the program's text. -/
def laid_errors_errorType {H : Type} : DataW H := .iface "internal/reflectlite.rtype" (.agg [.ptr (.lit (.string [101, 114, 114, 111, 114]))])

/-- 'scriptoriumlaw17.WireWrites': WHATEVER THE INPUT: true; the input reads as it did. -/
def wireWritesSpec : ChangeSpec := { name := "wireWrites", fn := fun _ => fun
  | [d1, d2] => { results := [.lit (.bool true)], args := [d1, d2] }
  | _ => none }
def wireWritesRow : OpenClaim := { program := "ytmgandacmhkndaadoor", sum := "9845b9c9c88739d8eb1bda1b1105c11172a3769180eb791f6f3728f527766b07", func := "scriptorium/scriptoriumlaw17.WireWrites", spec := "wireWrites", inPlace := ["internal/reflectlite.ValueOf", "(internal/reflectlite.Value).Type", "(internal/reflectlite.Value).IsNil", "internal/reflectlite.TypeOf", "(internal/reflectlite.Value).Elem", "(internal/reflectlite.Value).Set"], unfollowed := true, recurses := true, named := ["errors.errorType"], apart := false, laid := [("errors.errorType", laid_errors_errorType)] }
def WireWritesSaid : Prop := wireWritesRow.holds Tryd.pinned (OpenSpec.ofChange wireWritesSpec)

/-- ITS FALSE NEIGHBOUR: 'it returns false'. Refute it at one input. -/
def wireWritesWrong : ChangeSpec := { name := "wireWrites", fn := fun _ => fun
  | [d1, d2] => { results := [.lit (.bool false)], args := [d1, d2] }
  | _ => none }
def WireWritesWrongFalsely : Prop := wireWritesRow.holds Tryd.pinned (OpenSpec.ofChange wireWritesWrong)

/-- 'scriptoriumlaw17.WireBack': WHATEVER THE INPUT: true; the input reads as it did. -/
def wireBackSpec : ChangeSpec := { name := "wireBack", fn := fun _ => fun
  | [d1, d2, d3] => { results := [.lit (.bool true)], args := [d1, d2, d3] }
  | _ => none }
def wireBackRow : OpenClaim := { program := "ytmgandacmhkndaadoor", sum := "9845b9c9c88739d8eb1bda1b1105c11172a3769180eb791f6f3728f527766b07", func := "scriptorium/scriptoriumlaw17.WireBack", spec := "wireBack", inPlace := ["internal/reflectlite.ValueOf", "(internal/reflectlite.Value).Type", "(internal/reflectlite.Value).IsNil", "internal/reflectlite.TypeOf", "(internal/reflectlite.Value).Elem", "(internal/reflectlite.Value).Set"], unfollowed := true, recurses := true, named := ["errors.errorType"], apart := false, laid := [("errors.errorType", laid_errors_errorType)] }
def WireBackSaid : Prop := wireBackRow.holds Tryd.pinned (OpenSpec.ofChange wireBackSpec)

/-- ITS FALSE NEIGHBOUR: 'it returns false'. Refute it at one input. -/
def wireBackWrong : ChangeSpec := { name := "wireBack", fn := fun _ => fun
  | [d1, d2, d3] => { results := [.lit (.bool false)], args := [d1, d2, d3] }
  | _ => none }
def WireBackWrongFalsely : Prop := wireBackRow.holds Tryd.pinned (OpenSpec.ofChange wireBackWrong)

/-- 'scriptoriumlaw17.WireApart': WHATEVER THE INPUT: true; the input reads as it did. -/
def wireApartSpec : ChangeSpec := { name := "wireApart", fn := fun _ => fun
  | [d1, d2] => { results := [.lit (.bool true)], args := [d1, d2] }
  | _ => none }
def wireApartRow : OpenClaim := { program := "ytmgandacmhkndaadoor", sum := "9845b9c9c88739d8eb1bda1b1105c11172a3769180eb791f6f3728f527766b07", func := "scriptorium/scriptoriumlaw17.WireApart", spec := "wireApart", inPlace := ["internal/reflectlite.ValueOf", "(internal/reflectlite.Value).Type", "(internal/reflectlite.Value).IsNil", "internal/reflectlite.TypeOf", "(internal/reflectlite.Value).Elem", "(internal/reflectlite.Value).Set"], unfollowed := true, recurses := true, named := ["errors.errorType"], apart := false, laid := [("errors.errorType", laid_errors_errorType)] }
def WireApartSaid : Prop := wireApartRow.holds Tryd.pinned (OpenSpec.ofChange wireApartSpec)

/-- ITS FALSE NEIGHBOUR: 'it returns false'. Refute it at one input. -/
def wireApartWrong : ChangeSpec := { name := "wireApart", fn := fun _ => fun
  | [d1, d2] => { results := [.lit (.bool false)], args := [d1, d2] }
  | _ => none }
def WireApartWrongFalsely : Prop := wireApartRow.holds Tryd.pinned (OpenSpec.ofChange wireApartWrong)

/-- 'scriptoriumlaw17.WireBounds': WHATEVER THE INPUT: true; the input reads as it did. -/
def wireBoundsSpec : ChangeSpec := { name := "wireBounds", fn := fun _ => fun
  | [d1, d2, d3, d4, d5, d6] => { results := [.lit (.bool true)], args := [d1, d2, d3, d4, d5, d6] }
  | _ => none }
def wireBoundsRow : OpenClaim := { program := "ytmgandacmhkndaadoor", sum := "9845b9c9c88739d8eb1bda1b1105c11172a3769180eb791f6f3728f527766b07", func := "scriptorium/scriptoriumlaw17.WireBounds", spec := "wireBounds", inPlace := ["internal/reflectlite.ValueOf", "(internal/reflectlite.Value).Type", "(internal/reflectlite.Value).IsNil", "internal/reflectlite.TypeOf", "(internal/reflectlite.Value).Elem", "(internal/reflectlite.Value).Set"], unfollowed := true, recurses := true, named := ["errors.errorType"], apart := false, laid := [("errors.errorType", laid_errors_errorType)] }
def WireBoundsSaid : Prop := wireBoundsRow.holds Tryd.pinned (OpenSpec.ofChange wireBoundsSpec)

/-- ITS FALSE NEIGHBOUR: 'it returns false'. Refute it at one input. -/
def wireBoundsWrong : ChangeSpec := { name := "wireBounds", fn := fun _ => fun
  | [d1, d2, d3, d4, d5, d6] => { results := [.lit (.bool false)], args := [d1, d2, d3, d4, d5, d6] }
  | _ => none }
def WireBoundsWrongFalsely : Prop := wireBoundsRow.holds Tryd.pinned (OpenSpec.ofChange wireBoundsWrong)

/-- 'scriptoriumlaw13.SnapNumbers': WHATEVER THE INPUT: true; the input reads as it did. -/
def snapNumbersSpec : ChangeSpec := { name := "snapNumbers", fn := fun _ => fun
  | [d1, d2, d3, d4] => { results := [.lit (.bool true)], args := [d1, d2, d3, d4] }
  | _ => none }
def snapNumbersRow : OpenClaim := { program := "ytmgandacmhkndaadoor", sum := "9845b9c9c88739d8eb1bda1b1105c11172a3769180eb791f6f3728f527766b07", func := "scriptorium/scriptoriumlaw13.SnapNumbers", spec := "snapNumbers", inPlace := ["internal/bytealg.abigen_runtime_cmpstring", "internal/bytealg.IndexByteString", "internal/bytealg.IndexString", "internal/reflectlite.ValueOf", "(internal/reflectlite.Value).Type", "(internal/reflectlite.Value).IsNil", "internal/reflectlite.TypeOf", "(internal/reflectlite.Value).Elem", "(internal/reflectlite.Value).Set"], unfollowed := true, recurses := true, named := ["internal/bytealg.MaxLen", "errors.errorType"], apart := false, laid := [("errors.errorType", laid_errors_errorType)] }
def SnapNumbersSaid : Prop := snapNumbersRow.holds Tryd.pinned (OpenSpec.ofChange snapNumbersSpec)

/-- ITS FALSE NEIGHBOUR: 'it returns false'. Refute it at one input. -/
def snapNumbersWrong : ChangeSpec := { name := "snapNumbers", fn := fun _ => fun
  | [d1, d2, d3, d4] => { results := [.lit (.bool false)], args := [d1, d2, d3, d4] }
  | _ => none }
def SnapNumbersWrongFalsely : Prop := snapNumbersRow.holds Tryd.pinned (OpenSpec.ofChange snapNumbersWrong)

/-- 'scriptoriumlaw13.SnapBack': WHATEVER THE INPUT: true; the input reads as it did. -/
def snapBackSpec : ChangeSpec := { name := "snapBack", fn := fun _ => fun
  | [d1, d2, d3, d4] => { results := [.lit (.bool true)], args := [d1, d2, d3, d4] }
  | _ => none }
def snapBackRow : OpenClaim := { program := "ytmgandacmhkndaadoor", sum := "9845b9c9c88739d8eb1bda1b1105c11172a3769180eb791f6f3728f527766b07", func := "scriptorium/scriptoriumlaw13.SnapBack", spec := "snapBack", inPlace := ["internal/bytealg.abigen_runtime_cmpstring", "internal/bytealg.IndexByteString", "internal/bytealg.IndexString", "internal/reflectlite.ValueOf", "(internal/reflectlite.Value).Type", "(internal/reflectlite.Value).IsNil", "internal/reflectlite.TypeOf", "(internal/reflectlite.Value).Elem", "(internal/reflectlite.Value).Set"], unfollowed := true, recurses := true, named := ["internal/bytealg.MaxLen", "errors.errorType"], apart := false, laid := [("errors.errorType", laid_errors_errorType)] }
def SnapBackSaid : Prop := snapBackRow.holds Tryd.pinned (OpenSpec.ofChange snapBackSpec)

/-- ITS FALSE NEIGHBOUR: 'it returns false'. Refute it at one input. -/
def snapBackWrong : ChangeSpec := { name := "snapBack", fn := fun _ => fun
  | [d1, d2, d3, d4] => { results := [.lit (.bool false)], args := [d1, d2, d3, d4] }
  | _ => none }
def SnapBackWrongFalsely : Prop := snapBackRow.holds Tryd.pinned (OpenSpec.ofChange snapBackWrong)

/-- 'scriptoriumlaw13.SnapStores': WHATEVER THE INPUT: true; the input reads as it did. -/
def snapStoresSpec : ChangeSpec := { name := "snapStores", fn := fun _ => fun
  | [d1, d2, d3] => { results := [.lit (.bool true)], args := [d1, d2, d3] }
  | _ => none }
def snapStoresRow : OpenClaim := { program := "ytmgandacmhkndaadoor", sum := "9845b9c9c88739d8eb1bda1b1105c11172a3769180eb791f6f3728f527766b07", func := "scriptorium/scriptoriumlaw13.SnapStores", spec := "snapStores", inPlace := ["internal/bytealg.abigen_runtime_cmpstring", "internal/bytealg.IndexByteString", "internal/bytealg.IndexString", "internal/reflectlite.ValueOf", "(internal/reflectlite.Value).Type", "(internal/reflectlite.Value).IsNil", "internal/reflectlite.TypeOf", "(internal/reflectlite.Value).Elem", "(internal/reflectlite.Value).Set"], unfollowed := true, recurses := true, named := ["internal/bytealg.MaxLen", "errors.errorType"], apart := false, laid := [("errors.errorType", laid_errors_errorType)] }
def SnapStoresSaid : Prop := snapStoresRow.holds Tryd.pinned (OpenSpec.ofChange snapStoresSpec)

/-- ITS FALSE NEIGHBOUR: 'it returns false'. Refute it at one input. -/
def snapStoresWrong : ChangeSpec := { name := "snapStores", fn := fun _ => fun
  | [d1, d2, d3] => { results := [.lit (.bool false)], args := [d1, d2, d3] }
  | _ => none }
def SnapStoresWrongFalsely : Prop := snapStoresRow.holds Tryd.pinned (OpenSpec.ofChange snapStoresWrong)

/-- 'scriptoriumlaw13.SnapApart': WHATEVER THE INPUT: true; the input reads as it did. -/
def snapApartSpec : ChangeSpec := { name := "snapApart", fn := fun _ => fun
  | [d1, d2] => { results := [.lit (.bool true)], args := [d1, d2] }
  | _ => none }
def snapApartRow : OpenClaim := { program := "ytmgandacmhkndaadoor", sum := "9845b9c9c88739d8eb1bda1b1105c11172a3769180eb791f6f3728f527766b07", func := "scriptorium/scriptoriumlaw13.SnapApart", spec := "snapApart", inPlace := ["internal/bytealg.abigen_runtime_cmpstring", "internal/bytealg.IndexByteString", "internal/bytealg.IndexString", "internal/reflectlite.ValueOf", "(internal/reflectlite.Value).Type", "(internal/reflectlite.Value).IsNil", "internal/reflectlite.TypeOf", "(internal/reflectlite.Value).Elem", "(internal/reflectlite.Value).Set"], unfollowed := true, recurses := true, named := ["internal/bytealg.MaxLen", "errors.errorType"], apart := false, laid := [("errors.errorType", laid_errors_errorType)] }
def SnapApartSaid : Prop := snapApartRow.holds Tryd.pinned (OpenSpec.ofChange snapApartSpec)

/-- ITS FALSE NEIGHBOUR: 'it returns false'. Refute it at one input. -/
def snapApartWrong : ChangeSpec := { name := "snapApart", fn := fun _ => fun
  | [d1, d2] => { results := [.lit (.bool false)], args := [d1, d2] }
  | _ => none }
def SnapApartWrongFalsely : Prop := snapApartRow.holds Tryd.pinned (OpenSpec.ofChange snapApartWrong)

/- THE SECOND FORM. 'bulk': how many values and letters a reading holds, each counted each time it is reached (what is shared counts as often as it is met; a slice's spare places count too). A statement '..UptoSaid' is the law's where the arguments, and the package variables that the reading takes, are together of bulk at most 1048576: NARROWER than '..Said'. Prove '..Said' where nothing that the law and all that it calls make is longer than what came in: it says more and counts as full. Else prove '..UptoSaid'. A law counts once. -/
mutual
def uptoBulk {H : Type} : DataW H → Nat
  | .lit (.string bytes) => bytes.length + 1
  | .lit _ => 1
  | .nil => 1
  | .ptr d => uptoBulk d + 1
  | .slice elems spare => uptoBulkAll elems + uptoBulkAll spare + 1
  | .agg parts => uptoBulkAll parts + 1
  | .iface _ d => uptoBulk d + 1
  | .map entries => uptoBulkEntries entries + 1
  | .held _ => 1
def uptoBulkAll {H : Type} : List (DataW H) → Nat
  | [] => 0
  | d :: r => uptoBulk d + uptoBulkAll r
def uptoBulkEntries {H : Type} : List (Lit × DataW H) → Nat
  | [] => 0
  | x :: r => uptoBulkEntry x + uptoBulkEntries r
def uptoBulkEntry {H : Type} : Lit × DataW H → Nat
  | (.string bytes, d) => bytes.length + uptoBulk d + 1
  | (_, d) => uptoBulk d + 1
 end
def uptoSmall : (H : Type) → List (DataW H) → Bool := fun _ ds => decide (uptoBulkAll ds ≤ 1048576)
def OpenSpec.upto (s : _root_.Go.ChangeSpec) : _root_.Go.OpenSpec := { _root_.Go.OpenSpec.ofChange s with cond := some uptoSmall }

/-- 'scriptoriumlaw17.WireWrites', WHERE WHAT IT READS IS OF BULK AT MOST 1048576: true; the input reads as it did. -/
def wireWritesUptoRow : OpenClaim := { program := "ytmgandacmhkndaadoor", sum := "9845b9c9c88739d8eb1bda1b1105c11172a3769180eb791f6f3728f527766b07", func := "scriptorium/scriptoriumlaw17.WireWrites", spec := "wireWrites", inPlace := ["internal/reflectlite.ValueOf", "(internal/reflectlite.Value).Type", "(internal/reflectlite.Value).IsNil", "internal/reflectlite.TypeOf", "(internal/reflectlite.Value).Elem", "(internal/reflectlite.Value).Set"], unfollowed := true, recurses := true, named := ["errors.errorType"], apart := false, laid := [("errors.errorType", laid_errors_errorType)], narrowed := true }
def WireWritesUptoSaid : Prop := wireWritesUptoRow.holds Tryd.pinned (OpenSpec.upto wireWritesSpec)

/-- 'scriptoriumlaw17.WireBack', WHERE WHAT IT READS IS OF BULK AT MOST 1048576: true; the input reads as it did. -/
def wireBackUptoRow : OpenClaim := { program := "ytmgandacmhkndaadoor", sum := "9845b9c9c88739d8eb1bda1b1105c11172a3769180eb791f6f3728f527766b07", func := "scriptorium/scriptoriumlaw17.WireBack", spec := "wireBack", inPlace := ["internal/reflectlite.ValueOf", "(internal/reflectlite.Value).Type", "(internal/reflectlite.Value).IsNil", "internal/reflectlite.TypeOf", "(internal/reflectlite.Value).Elem", "(internal/reflectlite.Value).Set"], unfollowed := true, recurses := true, named := ["errors.errorType"], apart := false, laid := [("errors.errorType", laid_errors_errorType)], narrowed := true }
def WireBackUptoSaid : Prop := wireBackUptoRow.holds Tryd.pinned (OpenSpec.upto wireBackSpec)

/-- 'scriptoriumlaw17.WireApart', WHERE WHAT IT READS IS OF BULK AT MOST 1048576: true; the input reads as it did. -/
def wireApartUptoRow : OpenClaim := { program := "ytmgandacmhkndaadoor", sum := "9845b9c9c88739d8eb1bda1b1105c11172a3769180eb791f6f3728f527766b07", func := "scriptorium/scriptoriumlaw17.WireApart", spec := "wireApart", inPlace := ["internal/reflectlite.ValueOf", "(internal/reflectlite.Value).Type", "(internal/reflectlite.Value).IsNil", "internal/reflectlite.TypeOf", "(internal/reflectlite.Value).Elem", "(internal/reflectlite.Value).Set"], unfollowed := true, recurses := true, named := ["errors.errorType"], apart := false, laid := [("errors.errorType", laid_errors_errorType)], narrowed := true }
def WireApartUptoSaid : Prop := wireApartUptoRow.holds Tryd.pinned (OpenSpec.upto wireApartSpec)

/-- 'scriptoriumlaw17.WireBounds', WHERE WHAT IT READS IS OF BULK AT MOST 1048576: true; the input reads as it did. -/
def wireBoundsUptoRow : OpenClaim := { program := "ytmgandacmhkndaadoor", sum := "9845b9c9c88739d8eb1bda1b1105c11172a3769180eb791f6f3728f527766b07", func := "scriptorium/scriptoriumlaw17.WireBounds", spec := "wireBounds", inPlace := ["internal/reflectlite.ValueOf", "(internal/reflectlite.Value).Type", "(internal/reflectlite.Value).IsNil", "internal/reflectlite.TypeOf", "(internal/reflectlite.Value).Elem", "(internal/reflectlite.Value).Set"], unfollowed := true, recurses := true, named := ["errors.errorType"], apart := false, laid := [("errors.errorType", laid_errors_errorType)], narrowed := true }
def WireBoundsUptoSaid : Prop := wireBoundsUptoRow.holds Tryd.pinned (OpenSpec.upto wireBoundsSpec)

/-- 'scriptoriumlaw13.SnapNumbers', WHERE WHAT IT READS IS OF BULK AT MOST 1048576: true; the input reads as it did. -/
def snapNumbersUptoRow : OpenClaim := { program := "ytmgandacmhkndaadoor", sum := "9845b9c9c88739d8eb1bda1b1105c11172a3769180eb791f6f3728f527766b07", func := "scriptorium/scriptoriumlaw13.SnapNumbers", spec := "snapNumbers", inPlace := ["internal/bytealg.abigen_runtime_cmpstring", "internal/bytealg.IndexByteString", "internal/bytealg.IndexString", "internal/reflectlite.ValueOf", "(internal/reflectlite.Value).Type", "(internal/reflectlite.Value).IsNil", "internal/reflectlite.TypeOf", "(internal/reflectlite.Value).Elem", "(internal/reflectlite.Value).Set"], unfollowed := true, recurses := true, named := ["internal/bytealg.MaxLen", "errors.errorType"], apart := false, laid := [("errors.errorType", laid_errors_errorType)], narrowed := true }
def SnapNumbersUptoSaid : Prop := snapNumbersUptoRow.holds Tryd.pinned (OpenSpec.upto snapNumbersSpec)

/-- 'scriptoriumlaw13.SnapBack', WHERE WHAT IT READS IS OF BULK AT MOST 1048576: true; the input reads as it did. -/
def snapBackUptoRow : OpenClaim := { program := "ytmgandacmhkndaadoor", sum := "9845b9c9c88739d8eb1bda1b1105c11172a3769180eb791f6f3728f527766b07", func := "scriptorium/scriptoriumlaw13.SnapBack", spec := "snapBack", inPlace := ["internal/bytealg.abigen_runtime_cmpstring", "internal/bytealg.IndexByteString", "internal/bytealg.IndexString", "internal/reflectlite.ValueOf", "(internal/reflectlite.Value).Type", "(internal/reflectlite.Value).IsNil", "internal/reflectlite.TypeOf", "(internal/reflectlite.Value).Elem", "(internal/reflectlite.Value).Set"], unfollowed := true, recurses := true, named := ["internal/bytealg.MaxLen", "errors.errorType"], apart := false, laid := [("errors.errorType", laid_errors_errorType)], narrowed := true }
def SnapBackUptoSaid : Prop := snapBackUptoRow.holds Tryd.pinned (OpenSpec.upto snapBackSpec)

/-- 'scriptoriumlaw13.SnapStores', WHERE WHAT IT READS IS OF BULK AT MOST 1048576: true; the input reads as it did. -/
def snapStoresUptoRow : OpenClaim := { program := "ytmgandacmhkndaadoor", sum := "9845b9c9c88739d8eb1bda1b1105c11172a3769180eb791f6f3728f527766b07", func := "scriptorium/scriptoriumlaw13.SnapStores", spec := "snapStores", inPlace := ["internal/bytealg.abigen_runtime_cmpstring", "internal/bytealg.IndexByteString", "internal/bytealg.IndexString", "internal/reflectlite.ValueOf", "(internal/reflectlite.Value).Type", "(internal/reflectlite.Value).IsNil", "internal/reflectlite.TypeOf", "(internal/reflectlite.Value).Elem", "(internal/reflectlite.Value).Set"], unfollowed := true, recurses := true, named := ["internal/bytealg.MaxLen", "errors.errorType"], apart := false, laid := [("errors.errorType", laid_errors_errorType)], narrowed := true }
def SnapStoresUptoSaid : Prop := snapStoresUptoRow.holds Tryd.pinned (OpenSpec.upto snapStoresSpec)

/-- 'scriptoriumlaw13.SnapApart', WHERE WHAT IT READS IS OF BULK AT MOST 1048576: true; the input reads as it did. -/
def snapApartUptoRow : OpenClaim := { program := "ytmgandacmhkndaadoor", sum := "9845b9c9c88739d8eb1bda1b1105c11172a3769180eb791f6f3728f527766b07", func := "scriptorium/scriptoriumlaw13.SnapApart", spec := "snapApart", inPlace := ["internal/bytealg.abigen_runtime_cmpstring", "internal/bytealg.IndexByteString", "internal/bytealg.IndexString", "internal/reflectlite.ValueOf", "(internal/reflectlite.Value).Type", "(internal/reflectlite.Value).IsNil", "internal/reflectlite.TypeOf", "(internal/reflectlite.Value).Elem", "(internal/reflectlite.Value).Set"], unfollowed := true, recurses := true, named := ["internal/bytealg.MaxLen", "errors.errorType"], apart := false, laid := [("errors.errorType", laid_errors_errorType)], narrowed := true }
def SnapApartUptoSaid : Prop := snapApartUptoRow.holds Tryd.pinned (OpenSpec.upto snapApartSpec)

end Rows
end Go.Proofs.YtmgandacmhkndaaDoor
