/- snap.Encode: its number closure; Encode of the empty store. -/
import Derived.Test.YtmgandacmhkndaaDoorEmp
import Derived.Laws.EntriesVeiled
import Derived.Deep.DeepCutAuto
import Derived.Deep.CutBlock
import Derived.Deep.Light
namespace Go.Proofs.YtmgandacmhkndaaDoor
open Go.RowKit
set_option maxRecDepth 100000
set_option linter.unusedSimpArgs false

/-- The box of the bytes that Encode builds. -/
structure SBox (w W : World) (p : Nat) (bs : List UInt8) : Prop where
  below : Below w.heap.size w W
  le : w.heap.size ≤ p
  box : ∃ v, Blk W p 24 #[v] ∧ OwnB W w.heap.size v bs
def SBoxPost (w W : World) (p : Nat) (bs : List UInt8) (e : Ending) (w' : World) : Prop :=
  e = .returned (.tuple #[]) ∧ SBox w w' p bs ∧ ∀ g t cs, g ≠ p → 5 ≠ t → Blk W g t cs → Blk w' g t cs

set_option maxHeartbeats 4000000 in
theorem snumber_any (w W : World) (p n : Nat) (bs : List UInt8) (h : SBox w W p bs) (hn : n ≤ 9223372036854775807) (hl : bs.length ≤ 1000000000000) :
    Calls Tryd.prog 60 #[.int .i64 n, .pointer (some ⟨p, 0, none⟩)] W (SBoxPost w W p (bs ++ vr n)) := by
  obtain ⟨v, hb, ho⟩ := h.box
  have cb := hb.cells
  have fb := hb.frozen
  have HV := Lib.hid (var_any w.heap.size v bs n W hn ho h.below.size hl)
  have HB := Lib.hid hb
  have HH := Lib.hid h
  have HO := Lib.hid ho
  clear h ho hb
  go_enter Tryd.func60, Tryd.ntmps60
  go_wp2_with fail
  refine HV.out.mono ?_
  rintro e w1 ⟨v', rfl, ha⟩
  obtain ⟨A1, c1, hv, _, _⟩ := own_slice ha.own
  obtain ⟨k1, hk1⟩ : ∃ k, k = (bvs (bs ++ vr n)).length := ⟨_, rfl⟩
  rw [← hk1] at hv
  subst hv
  clear hk1
  have hb1 := HB.out.app HO.out ha.grown (by decide)
  have hB := HH.out.below.trans (ha.below HO.out HH.out.below.size (Nat.le_refl _))
  have cb1 := hb1.cells
  have fb1 := hb1.frozen
  have hne := own_blk_ne ha.own hb1 (by decide)
  clear cb fb
  have HA := Lib.hid ha
  have HB1 := Lib.hid hb1
  have HBB := Lib.hid hB
  clear ha hb1 hB
  go_wp2_with fail
  go_end0
  refine ⟨rfl, ⟨HBB.out.setCell HH.out.le _, HH.out.le, _, HB1.out.set_ 0 _, own_far HA.out.own hne _⟩, fun g t cs hg ht hb => ?_⟩
  exact (hb.app HO.out HA.out.grown ht).far hg _


theorem Blk.new1f (w : World) (o : Obj) (t : TypeId) (cs : Array Value) : Blk ((w.alloc o).alloc (.cells cs t)) (w.heap.size + 1) t cs := by
  have := Blk.new (w.alloc o) t cs
  rwa [alloc_size] at this
theorem Blk.new2 (w : World) (o o' : Obj) (t : TypeId) (cs : Array Value) : Blk (((w.alloc o).alloc o').alloc (.cells cs t)) (w.heap.size + 1 + 1) t cs := by
  have := Blk.new ((w.alloc o).alloc o') t cs
  rwa [alloc_size, alloc_size] at this

set_option maxHeartbeats 8000000 in
theorem senc_nil (w : World) : Calls Tryd.prog 31 #[.agg #[.slice none 0 0, .slice none 0 0]] w fun e w' => ∃ v, e = .returned (.tuple #[v, .int .i64 0]) ∧ OwnB w' w.heap.size v [83, 0, 0] ∧ Below w.heap.size w w' := by
  have hmf := mkf
  go_enter Tryd.func31, Tryd.ntmps31
  go_wp2_with fail
  refine (docs_nil _).mono ?_
  rintro e w1 ⟨rfl, hB1⟩
  have hs1 := hB1.size
  rw [alloc_size] at hs1
  have hS := (Blk.new w 61 #[.slice none 0 0, .slice none 0 0]).keep hB1
  have HB1 := Lib.hid (((Below.refl w.heap.size w).alloc (Nat.le_refl _) (.cells #[.slice none 0 0, .slice none 0 0] 61)).trans (hB1.mono (by simp)))
  have HS := Lib.hid hS
  have cS := hS.cells
  clear hB1 hS
  go_upto_region 7 with (first
    | (at_builtin
       refine wpList_append_rd _ rfl (.tmp 20) (.tmp 21) 24 rfl w.heap.size 5 _ 1 Tryd.underlying24 info_u8 rfl _ (bvs []) (some ⟨w1.heap.size + 1 + 1, 0, none⟩) 1 1 (bvs [83]) rfl rfl rfl (own_nil _ _ _ _) (rd_blk (Blk.new2 _ _ _ _ _)) ?h1 ?h2 ?h3 ?h4 ?_
       rotate_left 4
       intro v2 w2 happ
       obtain ⟨A2, c2, rfl, _, _⟩ := own_slice happ.own
       have hx := ((((Blk.new w1 24 #[.slice none 0 0]).alloc (.cells #[.func (.func 60) #[] #[.pointer (some ⟨w1.heap.size, 0, none⟩)]] 104)).alloc (.cells #[.int .u8 83] 5)).app (own_nil _ w.heap.size 5 1) happ.grown (by decide))
       have hf := ((Blk.new1f w1 (.cells #[.slice none 0 0] 24) 104 #[.func (.func 60) #[] #[.pointer (some ⟨w1.heap.size, 0, none⟩)]]).alloc (.cells #[.int .u8 83] 5)).app (own_nil _ w.heap.size 5 1) happ.grown (by decide)
       have hs2 := (((HS.out.alloc (.cells #[.slice none 0 0] 24)).alloc (.cells #[.func (.func 60) #[] #[.pointer (some ⟨w1.heap.size, 0, none⟩)]] 104)).alloc (.cells #[.int .u8 83] 5)).app (own_nil _ w.heap.size 5 1) happ.grown (by decide)
       have cx := hx.cells
       have fx := hx.frozen
       have HX := Lib.hid hx
       have HF := Lib.hid hf
       have HS2 := Lib.hid hs2
       have HA := Lib.hid happ
       clear hx hf hs2 happ cS))
  case h1 => exact one_bv _
  case h2 => simp [maxLen]
  case h3 => simp
  case h4 => simp only [alloc_size]; omega
  have hne := own_blk_ne HA.out.own HX.out (by decide)
  obtain ⟨p, hp⟩ : ∃ p, p = w1.heap.size := ⟨_, rfl⟩
  rw [← hp] at hne cx fx HX HF ⊢
  have hb3 : SBox w (w2.setCell ⟨p, 0, none⟩ (.slice A2 1 c2)) p [83] :=
    ⟨(HB1.out.trans ((((Below.refl w.heap.size w1).alloc (by omega) _).alloc (by simp only [alloc_size]; omega) _).alloc (by simp only [alloc_size]; omega) _|>.trans
      (HA.out.below (own_nil _ _ _ _) (by simp only [alloc_size]; omega) (Nat.le_refl _)))).setCell (show w.heap.size ≤ p by omega) _, by omega, _, HX.out.set_ 0 _, own_far HA.out.own hne _⟩
  have hsp := (HX.out.ne_ HS2.out (by decide)).symm
  have hf3 := HF.out.far (p := ⟨p, 0, none⟩) (by simp) (.slice A2 1 c2)
  have hs3 := HS2.out.far (p := ⟨p, 0, none⟩) hsp (.slice A2 1 c2)
  clear cx fx hp hs1 HB1
  generalize w2.setCell ⟨p, 0, none⟩ (.slice A2 1 c2) = W3 at hb3 hf3 hs3 ⊢
  have cf := hf3.cells
  have cs := hs3.cells
  have HB3 := Lib.hid hb3
  have HF3 := Lib.hid hf3
  have HS3 := Lib.hid hs3
  have HSP := Lib.hid hsp
  clear hb3 hf3 hs3 hne hsp
  go_wp2_with fail
  refine (snumber_any w W3 p 0 [83] HB3.out (by omega) (by decide)).mono ?_
  rintro e w4 ⟨rfl, hb4, hk4⟩
  have hf4 := hk4 _ _ _ (by simp) (by decide) HF3.out
  have hs4 := hk4 _ _ _ HSP.out (by decide) HS3.out
  have cf4 := hf4.cells
  have cs4 := hs4.cells
  have e0 : ([83] ++ vr 0 : List UInt8) = [83, 0] := by rw [vr_small (by omega)]; rfl
  rw [e0] at hb4
  have HB4 := Lib.hid hb4
  have HF4 := Lib.hid hf4
  have HS4 := Lib.hid hs4
  clear hb4 hf4 hs4 hk4 cf cs
  have e1 : ([83, 0] ++ vr 0 : List UInt8) = [83, 0, 0] := by rw [vr_small (by omega)]; rfl
  go_wp2_with fail
  go_loopg [31] 0 (fun d s7 wr => d = 0 ∧ w4 = wr ∧ s7 = .int .i64 0)
  case atStart => exact ⟨rfl, rfl, rfl⟩
  case round =>
    obtain ⟨rfl, rfl, rfl⟩ := hrel
    go_wp2_with fail
    refine (snumber_any w _ p 0 [83, 0] HB4.out (by omega) (by decide)).mono ?_
    rintro e w5 ⟨rfl, hb5, hk5⟩
    rw [e1] at hb5
    have hs5 := hk5 _ _ _ HSP.out (by decide) HS4.out
    obtain ⟨v5, hv5, ho5⟩ := hb5.box
    obtain ⟨A5, c5, rfl, _, _⟩ := own_slice ho5
    have cs5 := hs5.cells
    have cv5 := hv5.cells
    have HO5 := Lib.hid ho5
    have HB5 := Lib.hid hb5
    clear hb5 hs5 hk5 cf4 cs4 ho5 hv5
    go_wp2_with fail
    go_loopg [86] 0 (fun d s7 wr => d = 0 ∧ w5 = wr ∧ s7 = .int .i64 0)
    case atStart => exact ⟨rfl, rfl, rfl⟩
    case round =>
      obtain ⟨rfl, rfl, rfl⟩ := hrel
      go_wp2_with fail
      go_ret2
      exact ⟨_, rfl, HO5.out, HB5.out.below⟩
end Go.Proofs.YtmgandacmhkndaaDoor
