/- scriptoriumlaw13.SnapBack: for every input of bulk at most 1048576 the law returns true, and each argument reads as it did: the second form's row and its tied card. No conditions beyond the row's own (the listed package-level variable as the program's text lays it). -/
import Derived.Test.YtmgandacmhkndaaDoorSOpen
namespace Go.Proofs.YtmgandacmhkndaaDoor.snapBack
open Go.ChangeShapes Go.WideShapes Go.RowKit Go.ChangeMaps
set_option maxRecDepth 100000
set_option linter.unusedSimpArgs false

theorem laidOut : laidOutB Tryd.prog = true := by kernel_rfl
theorem read_B : Tryd.prog.readableRec 24 = true := by kernel_rfl
theorem row_B : 24 < Tryd.prog.types.size := by rw [row_size]; decide

theorem contract (H : Type) (enc : TypeId × Value → H) (W : World) (base : Nat) (args : Array Value) (ds gs : List (DataW H)) (before : List MemPlace)
    (hval : ∀ (j : Nat) t v, Tryd.f8.params[j]? = some t → args[j]? = some v → Value.okWide Tryd.prog W .any base t v)
    (hW : DataW.Whole enc Tryd.prog Tryd.f8.params.toList Rows.snapBackSpec.vars false W args.toList ds gs before) (hL : laidMetH Tryd.prog laidE W)
    (hk : Rows.uptoSmall H (ds ++ gs) = true) :
    Calls Tryd.prog 8 args W fun e W' => ∃ v, e = .returned v ∧ Rows.snapBackSpec.post enc Tryd.prog Tryd.f8 false true false false W args v W' := by
  have hW' := hW
  have hbulk : Rows.uptoBulkAll (ds ++ gs) ≤ 1048576 := of_decide_eq_true hk
  have hlt : ∀ p ∈ before, p.block < W.heap.size := fun p hp => hW.lt p hp
  obtain ⟨p, q, hA0, hV, rfl, hfz, hnd⟩ := hW
  have hA : DataW.TrodAll enc Tryd.prog W 0 (fun _ => true) true Tryd.f8.params.toList args.toList ds p := hA0
  rw [Tryd.params8] at hA hval
  obtain ⟨v0, vs0, d0, ds0, p0, q0, hargs, rfl, rfl, h0, r0⟩ := trodAll_cons hA
  obtain ⟨v1, vs1, d1, ds1, p1, q1, rfl, rfl, rfl, h1, r1⟩ := trodAll_cons r0
  obtain ⟨v2, vs2, d2, ds2, p2, q2, rfl, rfl, rfl, h2, r2⟩ := trodAll_cons r1
  obtain ⟨v3, vs3, d3, ds3, p3, q3, rfl, rfl, rfl, h3, r3⟩ := trodAll_cons r2
  obtain ⟨rfl, rfl, rfl⟩ := trodAll_nil r3
  obtain rfl : args = #[v0, v1, v2, v3] := by cases args; simp_all
  obtain ⟨rfl, rfl⟩ := trodVars_none hV
  clear hA0
  simp only [List.append_nil] at hW' hlt hbulk
  have hb1 : Rows.uptoBulk d1 ≤ 1048576 := (by have := bulk_part (d := d1) (l := [d0, d1, d2, d3]) (by simp); omega)
  have hb2 : Rows.uptoBulk d2 ≤ 1048576 := (by have := bulk_part (d := d2) (l := [d0, d1, d2, d3]) (by simp); omega)
  obtain ⟨x0, rfl, rfl, rfl, w0⟩ := open_int Tryd.underlying49 (hval 0 49 v0 rfl rfl) h0
  obtain ⟨x1, rfl, rfl, rfl, w1⟩ := open_string Tryd.underlying9 (hval 1 9 v1 rfl rfl) h1
  obtain ⟨A2, c2, l2, rfl, g2, e2, f2, s2⟩ := open_bytes (hval 2 24 v2 rfl rfl) h2 hb2
  obtain ⟨x3, rfl, rfl, rfl, w3⟩ := open_int Tryd.underlying3 (hval 3 3 v3 rfl rfl) h3
  refine (sback_int x0 x1 A2 c2 l2 x3 W (errT_of_laid hL) (bounds_u64 w0).1 (bounds_u64 w0).2 (str_size hb1) g2 s2 (bounds_i64 w3).1 (bounds_i64 w3).2).mono fun e W' ⟨he, hbl⟩ => ?_
  subst he
  refine ⟨_, rfl, post_of_below (pa := p2) (pv := []) hW' (fun _ _ _ => trodAll_cons_mk (shut_bool Tryd.underlying4 _) trodAll_mk0) ?_
    (fun _ _ => rfl) (by simp) hbl (ok_one (by kernel_rfl) rfl (okWide_bool_mk Tryd.underlying4 _))⟩
  intro sp hsp
  have s52 := WideElems.Trod_stays (W' := W') (sp' := sp) laidOut read_B row_B h2 (fun z hz => hbl.same (hlt z (by simp [hz]))) (fun z hz => hsp z (by simp [hz]))
  have hall := (trodAll_cons_mk (shut_int Tryd.underlying49 w0) (trodAll_cons_mk (shut_string Tryd.underlying9 w1) (trodAll_cons_mk s52 (trodAll_cons_mk (shut_int Tryd.underlying3 w3) trodAll_mk0))))
  simp only [List.append_nil, List.nil_append] at hall
  exact hall

def argz : Array Value := #[.int .u64 0, .string ⟨#[]⟩, .slice none 0 0, .int .i64 0]
theorem reads (os : Os) {H : Type} (enc : TypeId × Value → H) : ∃ places, DataW.whole enc Tryd.prog ((laidWorld os).forCall (fun _ _ => 0) ⟨#[], argz, []⟩).memory Tryd.f8.params.toList Rows.snapBackSpec.vars false argz.toList 8 = some ([.lit (.int .u64 0), .lit (.string []), .nil, .lit (.int .i64 0)], [], places) :=
  ⟨[], by kernel_rfl⟩

theorem lifted (os : Os) (started : os.Started) (H : Type) (enc : TypeId × Value → H) (F : Stop.Interp) :
    ReturnsInHanded {} Tryd.checked os 8 .any ((Rows.OpenSpec.upto Rows.snapBackSpec).preRow enc Tryd.prog Tryd.f8 Rows.snapBackUptoRow.domain false Rows.snapBackUptoRow.laid) (((Rows.OpenSpec.upto Rows.snapBackSpec).at F).post enc Tryd.prog Tryd.f8 false true false false) := by
  obtain ⟨places, hx⟩ := reads os enc
  refine returnsInHanded_of_row (C := Tryd.checked) (s := Rows.OpenSpec.upto Rows.snapBackSpec) row_own started (by kernel_rfl) Tryd.func8
    (witness_row_at (enc := enc) (C := Tryd.checked) false (laidWorld os) argz rfl (by kernel_rfl) (by kernel_rfl) (by kernel_rfl)
      (OpenSpec.preRow_of_cond 8 hx (by kernel_rfl) (fun k hk => by cases hk; kernel_rfl) (by kernel_rfl) (laidWorld_met os argz))) ?_
  intro W base args ds gs before hval hW _ hcond _ hL _ _
  exact contract H enc W base args ds gs before hval hW hL (hcond _ rfl)

theorem said : Rows.SnapBackUptoSaid :=
  OpenClaim.holds_of_cond 8 Tryd.f8 rfl rfl rfl rfl rfl rfl rfl ⟨rfl, rfl, rfl, rfl, rfl⟩ rfl rfl rfl rfl rfl (by kernel_rfl) Tryd.func8 (by kernel_rfl)
    (of_decide_eq_true (by kernel_rfl)) (by unfold Func.isWrapper; rw [if_neg (of_decide_eq_false (by kernel_rfl))]; exact ⟨rfl, rfl⟩)
    (fun os started H enc _ F => by rw [OpenClaim.pre_eq_preRow]; exact lifted os started H enc F)

theorem plain (f : FuncId) (fn : Func) (hf : Tryd.pinned.checked.prog.funcNamed "scriptorium/scriptoriumlaw13.SnapBack" = some f) (hfn : Tryd.pinned.checked.prog.funcs[f]? = some fn) :
    true = Tryd.pinned.checked.prog.looks [] ∧ ∀ (j : Nat) t, fn.params[j]? = some t → Tryd.pinned.checked.prog.wantsStandIn t = false := by
  obtain rfl : f = 8 := Option.some.inj ((show Tryd.prog.funcNamed "scriptorium/scriptoriumlaw13.SnapBack" = some 8 by kernel_rfl).symm.trans hf) |>.symm
  obtain rfl : fn = Tryd.f8 := (Option.some.inj (Tryd.func8.symm.trans hfn)).symm
  refine ⟨by kernel_rfl, fun j t ht => ?_⟩
  rw [Tryd.params8] at ht
  have zU : Tryd.prog.wantsStandIn 49 = false := by kernel_rfl
  have zS : Tryd.prog.wantsStandIn 9 = false := by kernel_rfl
  have zB : Tryd.prog.wantsStandIn 24 = false := by kernel_rfl
  have zI : Tryd.prog.wantsStandIn 3 = false := by kernel_rfl
  have hm := Array.mem_of_getElem? ht
  simp only [List.mem_toArray, List.mem_cons, List.not_mem_nil, or_false] at hm
  rcases hm with rfl | rfl | rfl | rfl
  all_goals first | exact zU | exact zS | exact zB | exact zI

/-- The tied card. -/
theorem card : Rows.SnapBackUptoCardSaid :=
  Claim7.holds_tied_plain_at .later [] _ _ _ _ said (fun _ h => by cases h) (by kernel_rfl) (fun _ h => by cases h) snapBackUpto_row_tie rfl ⟨rfl, rfl⟩ (by kernel_rfl) rfl plain (by kernel_rfl)
#print axioms card
end Go.Proofs.YtmgandacmhkndaaDoor.snapBack
