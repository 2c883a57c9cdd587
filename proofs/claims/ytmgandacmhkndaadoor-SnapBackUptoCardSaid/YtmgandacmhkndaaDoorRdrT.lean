/- wire's reader: text, nodes: their walks. Conditions: the reader's block and bytes are known. -/
import Derived.Test.YtmgandacmhkndaaDoorRdr
import Derived.Lib.ConvBytes
namespace Go.Proofs.YtmgandacmhkndaaDoor
open Go.RowKit
set_option maxRecDepth 100000
set_option linter.unusedSimpArgs false

/-- Bytes in memory that the call made, and that may be written. -/
structure FreshD (w : World) (base : Nat) (A : Option Addr) (bs : List UInt8) : Prop where
  rd : Rd w A (bvs bs)
  lo : ∀ ad, A = some ad → base ≤ ad.block
  free : ∀ ad j, A = some ad → j < bs.length → w.frozen? (ad.add j) = false
  typ : ∀ ad, A = some ad → ∃ cs fr, w.heap[ad.block]? = some (.cells cs 5 fr)
theorem FreshD.none_ (w : World) (base : Nat) : FreshD w base none [] := ⟨.inl rfl, (fun _ h => by cases h), (fun _ _ h => by cases h), (fun _ h => by cases h)⟩
theorem FreshD.keep {w w' : World} {base : Nat} {A : Option Addr} {bs : List UInt8} (h : FreshD w base A bs) (hb : ∀ g, (∀ ad, A = some ad → ad.block = g → w'.heap[g]? = w.heap[g]?)) : FreshD w' base A bs := by
  have hk : ∀ ad, A = some ad → w'.heap[ad.block]? = w.heap[ad.block]? := fun ad e => hb _ ad e rfl
  refine ⟨?_, h.lo, fun ad j e hj => ?_, fun ad e => ?_⟩
  · rcases h.rd with hr | ⟨ad, rfl, hr⟩
    · exact .inl hr
    · exact .inr ⟨ad, rfl, fun j u hu => (World.cell?_of_block (by rw [block_of_add]; exact hk ad rfl)).trans (hr j u hu)⟩
  · exact (World.frozen?_of_block (by rw [block_of_add]; exact hk ad e)).trans (h.free ad j e hj)
  · obtain ⟨cs, fr, hc⟩ := h.typ ad e
    exact ⟨cs, fr, (hk ad e).trans hc⟩
theorem FreshD.lt {w : World} {base : Nat} {A : Option Addr} {bs : List UInt8} (h : FreshD w base A bs) : ∀ ad, A = some ad → ad.block < w.heap.size := by
  intro ad e
  obtain ⟨cs, fr, hc⟩ := h.typ ad e
  exact (Array.getElem?_eq_some_iff.1 hc).1
theorem FreshD.below {w w' : World} {base : Nat} {A : Option Addr} {bs : List UInt8} (h : FreshD w base A bs) (hb : Below w.heap.size w w') : FreshD w' base A bs :=
  h.keep fun g ad e hg => by subst hg; exact hb.block _ (h.lt ad e)
theorem FreshD.grown {w w' : World} {base : Nat} {A : Option Addr} {bs : List UInt8} {row : Option Nat} (h : FreshD w base A bs) (hb : w.grownBy w' row) (hr : ∀ ad, A = some ad → some ad.block ≠ row) : FreshD w' base A bs :=
  h.keep fun g ad e hg => by subst hg; exact hb.block _ (h.lt ad e) (hr ad e)
theorem FreshD.weaken {w : World} {base base' : Nat} {A : Option Addr} {bs : List UInt8} (h : FreshD w base A bs) (hb : base' ≤ base) : FreshD w base' A bs :=
  ⟨h.rd, fun ad e => Nat.le_trans hb (h.lo ad e), h.free, h.typ⟩
/-- '[]byte(s)'. -/
theorem FreshD.bytes (w : World) (bs : List UInt8) : FreshD (Lib.bytesWorld w 5 ⟨bs.toArray⟩) w.heap.size (some ⟨w.heap.size, 0, none⟩) bs := by
  have hsz : (⟨bs.toArray⟩ : ByteArray).size = bs.length := by simp [ByteArray.size]
  have hbl := Lib.bytesWorld_at_new w 5 ⟨bs.toArray⟩
  have hcs : (⟨bs.toArray⟩ : ByteArray).size ≤ (Lib.bytesCells w 5 ⟨bs.toArray⟩).size := by
    simp [Lib.bytesCells, ByteArray.size]
  refine ⟨.inr ⟨_, rfl, fun j u hu => ?_⟩, fun ad e => by injection e with e; subst e; exact Nat.le_refl _, fun ad j e hj => ?_, fun ad e => by injection e with e; subst e; exact ⟨_, _, hbl⟩⟩
  · obtain ⟨hj, rfl⟩ := List.getElem?_eq_some_iff.1 hu
    rw [List.length_map] at hj
    rw [add_lit, Lib.bytesWorld_cell w 5 ⟨bs.toArray⟩ j (by omega)]
    simp [bv, hj]
  · injection e with e; subst e
    rw [add_lit]
    unfold World.frozen?
    rw [hbl]
    simp only [Bool.and_eq_false_iff, decide_eq_false_iff_not]
    omega
theorem grown_bytes (w : World) (s : ByteArray) (row : Option Nat) : w.grownBy (Lib.bytesWorld w 5 s) row :=
  ⟨rfl, rfl, rfl, by rw [Lib.bytesWorld_size]; omega, fun i hi _ => Lib.bytesWorld_at_old w 5 s i hi⟩
theorem grown_trans {a b c : World} {row : Option Nat} (h : a.grownBy b row) (k : b.grownBy c row) : a.grownBy c row := World.grownBy.trans h k

def TextPost (b : List UInt8) (most at_ g : Nat) (A : Option Addr) (c : Nat) (w : World) (e : Ending) (w' : World) : Prop :=
  w.grownBy w' (some g) ∧ ((∃ bs a' A' c', rtext b most at_ = .ok (bs, a') ∧ e = .returned (.slice A' bs.length c') ∧ bs.length ≤ c' ∧ bs.length ≤ most ∧ Rdr w' g b a' A c ∧ FreshD w' w.heap.size A' bs) ∨
    (rtext b most at_ = .error at_ ∧ e = .panicked [{ v := .iface 83 (.int .i64 at_), recovered := false }] ∧ Rdr w' g b at_ A c))
theorem getT_le (l : List UInt8) (most : Int) : (getT l most).2 ≤ l.length ∧ ((getT l most).1.length : Int) ≤ max most 0 := by
  unfold getT
  split
  · simp; omega
  · rename_i h
    have := (getN_le l).1
    simp only [List.length_take, List.length_drop]
    omega

set_option maxHeartbeats 4000000 in
theorem text_any (b : List UInt8) (most at_ g : Nat) (A : Option Addr) (c : Nat) (w : World) (h : Rdr w g b at_ A c) (hm : most ≤ 1000000) :
    Calls Tryd.prog 70 #[.pointer (some ⟨g, 0, none⟩), .int .i64 most] w (TextPost b most at_ g A c w) := by
  have c0 : w.cell? ⟨g, 0, none⟩ = some (.slice A b.length c) := h.blk.cell 0
  have c1 : w.cell? ⟨g, 1, none⟩ = some (.int .i64 at_) := h.blk.cell 1
  have hfr := h.blk.frozen 1
  have hrc := h.rd.cut (k := at_) (cap := c) (by simpa using h.hc)
  have hat := h.hat
  have hc := h.hc
  have hl := h.hl
  have HH := Lib.hid h
  clear h
  rw [← List.map_drop] at hrc
  have hrd := hrc
  have hG : ∀ k : Nat, Calls Tryd.prog 24 #[.slice (if c = at_ then A else A.map (·.add at_)) (b.length - at_) (c - at_), .int .i64 most] (w.drewN k) fun e w' =>
      e = .returned (.tuple #[.string ⟨(getT (b.drop at_) most).1.toArray⟩, .int .i64 ((getT (b.drop at_) most).2 : Int)]) ∧ w' = w.drewN k := by
    intro k
    have hgn := getT_any _ (c - at_) (b.drop at_) most (w.drewN k) (hrd.drewN k) (by rw [List.length_drop]; omega) (by omega) (by omega) (by omega)
    rw [List.length_drop] at hgn
    exact hgn.mono fun _ _ ⟨he, hw⟩ => ⟨he, hw.symm⟩
  have hgl := getT_le (b.drop at_) most
  rw [List.length_drop] at hgl
  have HN : Hid (∀ x k, x = (getT (b.drop at_) most).1 → k = (getT (b.drop at_) most).2 → rtext b most at_ = if k = 0 then .error at_ else .ok (x, at_ + k)) := by
    rintro n k rfl rfl; rfl
  obtain ⟨x, hx⟩ : ∃ n, n = (getT (b.drop at_) most).1 := ⟨_, rfl⟩
  obtain ⟨k, hk⟩ : ∃ k, k = (getT (b.drop at_) most).2 := ⟨_, rfl⟩
  have HR := Lib.hid (HN.out x k hx hk)
  rw [← hx, ← hk] at hG hgl
  have HQ := Lib.hid (show at_ + k ≤ b.length by omega)
  have HX := Lib.hid (show x.length ≤ most by omega)
  have hcb := fun W : World => Lib.run_convert_string_bytes (P := Tryd.prog) W 9 24 5 ⟨x.toArray⟩ Tryd.underlying9 Tryd.underlying24 Tryd.underlying5
  have hsz : (⟨x.toArray⟩ : ByteArray).size = x.length := by simp [ByteArray.size]
  clear hrc hrd hx hk HN
  by_cases hck : c = at_
  · rw [if_pos hck] at hG
    subst hck
    rw [show b.length - c = 0 by omega, show c - c = 0 by omega] at hG
    have HG := Lib.hid hG
    clear hG
    have hk0 : k = 0 := by omega
    subst hk0
    go_enter Tryd.func70, Tryd.ntmps70
    go_wp2_with fail
    go_quiet ((go_at_call 24; with_reducible exact Calls.quiet_of_same (HG.out _)))
    go_wp2_with fail
    refine ⟨rfl, ?_⟩
    exact ⟨grown_drewN _ _ _, .inr ⟨HR.out, rfl, HH.out.drewN _⟩⟩
  · rw [if_neg hck] at hG
    have HG := Lib.hid hG
    clear hG
    by_cases hk0 : k = 0
    · subst hk0
      go_enter Tryd.func70, Tryd.ntmps70
      go_wp2_with fail
      go_quiet ((go_at_call 24; with_reducible exact Calls.quiet_of_same (HG.out _)))
      go_wp2_with fail
      refine ⟨rfl, ?_⟩
      exact ⟨grown_drewN _ _ _, .inr ⟨HR.out, rfl, HH.out.drewN _⟩⟩
    · have hk1 : ((k : Int) == 0) = false := by simpa using hk0
      have hr := HR.out
      rw [if_neg hk0] at hr
      have HR2 := Lib.hid hr
      clear hr hk0
      go_enter Tryd.func70, Tryd.ntmps70
      go_wp2_with fail
      go_quiet ((go_at_call 24; with_reducible exact Calls.quiet_of_same (HG.out _)))
      go_wp2_with fail
      go_ret
      have hs := HH.out.step nq (at_ + k) HQ.out
      have hb := FreshD.bytes ((w.drewN nq).setCell ⟨g, 1, none⟩ (.int .i64 ((at_ + k : Nat) : Int))) x
      have hg2 := grown_bytes ((w.drewN nq).setCell ⟨g, 1, none⟩ (.int .i64 ((at_ + k : Nat) : Int))) ⟨x.toArray⟩
      have hge := grownCap_ge ((w.drewN nq).setCell ⟨g, 1, none⟩ (.int .i64 ((at_ + k : Nat) : Int))) x.length 0 5
      have hss : ((w.drewN nq).setCell ⟨g, 1, none⟩ (.int .i64 ((at_ + k : Nat) : Int))).heap.size = w.heap.size := by simp [World.setCell, World.drewN]
      rw [hss] at hb
      refine ⟨grown_trans hs.1 (hg2 _), .inl ⟨x, _, _, _, HR2.out, rfl, ?_, HX.out, hs.2.keep ((Below.refl _ _).trans ⟨(hg2 none).os, (hg2 none).tape, (hg2 none).output, (hg2 none).size, fun i hi => (hg2 none).block i hi (by simp)⟩), hb⟩⟩
      exact hge

/-- So many numbers. -/
def rnums (b : List UInt8) (most : Nat) : Nat → Nat → Except Nat (List Nat × Nat)
  | 0, a => .ok ([], a)
  | k + 1, a => match rnum b most a with
    | .error p => .error p
    | .ok (n, a1) => match rnums b most k a1 with
      | .error p => .error p
      | .ok (l, a2) => .ok (n :: l, a2)
/-- How many nodes, and each. -/
def rnodes (b : List UInt8) (a : Nat) : Except Nat (List Nat × Nat) :=
  match rnum b 5 a with
  | .error p => .error p
  | .ok (k, a1) => rnums b 5 k a1
/-- The nodes of which those so far are read. -/
def rgo (b : List UInt8) (k : Nat) (ns : List Nat) (a : Nat) : Except Nat (List Nat × Nat) :=
  match rnums b 5 k a with
  | .error p => .error p
  | .ok (l, a2) => .ok (ns ++ l, a2)
abbrev OwnI (w : World) (base : Nat) (v : Value) (ns : List Int) : Prop := w.ownsRow base 3 1 v (ivs ns).length (ivs ns)
def NodesPost (b : List UInt8) (at_ g : Nat) (A : Option Addr) (c : Nat) (w : World) (e : Ending) (w' : World) : Prop :=
  w.grownBy w' (some g) ∧ ((∃ ns a' v, rnodes b at_ = .ok (ns, a') ∧ ns.length ≤ 5 ∧ e = .returned v ∧ Rdr w' g b a' A c ∧ OwnI w' w.heap.size v (ns.map Int.ofNat)) ∨
    (∃ p, rnodes b at_ = .error p ∧ e = .panicked [{ v := .iface 83 (.int .i64 p), recovered := false }]))

set_option maxHeartbeats 4000000 in
theorem nodes_any (b : List UInt8) (at_ g : Nat) (A : Option Addr) (c : Nat) (w : World) (h : Rdr w g b at_ A c) :
    Calls Tryd.prog 69 #[.pointer (some ⟨g, 0, none⟩)] w (NodesPost b at_ g A c w) := by
  have HH := Lib.hid h
  clear h
  have hl := HH.out.hl
  have hcc := HH.out.hc
  go_enter Tryd.func69, Tryd.ntmps69
  go_wp2_with fail
  refine (num_any b 5 at_ g A c w HH.out (by omega)).mono ?_
  rintro e w1 ⟨hg1, ⟨K, a1, hr1, rfl, hR1⟩ | ⟨hr1, rfl, hR1⟩⟩
  · have hK := rnum_ok hr1 HH.out.hat
    have HR1 := Lib.hid hr1
    have HG1 := Lib.hid hg1
    have hsz := hg1.size
    clear hr1 hg1
    go_wp2_with fail
    go_loopg [3, 6] K (fun d s3 i wr => ∃ (k a : Nat) (ns : List Nat), d + k = K ∧ k ≤ K ∧ i = .int .i64 k ∧ Hid (ns.length = k) ∧ w.heap.size ≤ wr.heap.size ∧ Hid (rnums b 5 K a1 = rgo b (K - k) ns a) ∧ Hid (w.grownBy wr (some g)) ∧ Hid (Rdr wr g b a A c) ∧ Hid (OwnI wr w.heap.size s3 (ns.map Int.ofNat)))
    case atStart => exact ⟨0, a1, [], rfl, Nat.zero_le _, rfl, rfl, hsz, (by show _ = _; unfold rgo; rw [Nat.sub_zero]; cases rnums b 5 K a1 <;> rfl), HG1, hR1, own_nil _ _ _ _⟩
    case round =>
      obtain ⟨k, a, ns, hd, hk, rfl, HL, hs, HE, HG, HR, HO⟩ := hrel
      have HD := Lib.hid hd
      clear hd hR1
      by_cases hlt : k < K
      · go_wp2_with fail
        refine (num_any b 5 a g A c wr HR.out (by omega)).mono ?_
        rintro e w2 ⟨hg2, ⟨n, a2, hr2, rfl, hR2⟩ | ⟨hr2, rfl, hR2⟩⟩
        · have hn2 := rnum_ok hr2 HR.out.hat
          have ho2 := HO.out.kept hg2 (.inr (own_blk_ne HO.out HR.out.blk (by decide)))
          have HE2 : Hid (rnums b 5 K a1 = rgo b (K - (k + 1)) (ns ++ [n]) a2) := by
            show _ = _
            rw [HE.out]
            unfold rgo
            rw [show K - k = (K - (k + 1)) + 1 by omega, rnums, hr2]
            simp only
            cases rnums b 5 (K - (k + 1)) a2 with
            | error p => rfl
            | ok q => simp
          have HG2 := Lib.hid (grown_trans HG.out hg2)
          have HR2 := Lib.hid hR2
          have HO2 := Lib.hid ho2
          have hsz2 := hg2.size
          have hln := HL.out
          have hlm : (ivs (ns.map Int.ofNat)).length = k := by rw [List.length_map, List.length_map]; exact hln
          have HLM := Lib.hid hlm
          clear hg2 hr2 hR2 ho2 hlm hln
          go_wp2_with (first
            | (at_builtin
               refine wpList_append_rd _ rfl (.tmp 8) (.tmp 11) 23 rfl w.heap.size 3 _ 8 Tryd.underlying23 info_int rfl _ (ivs (ns.map Int.ofNat)) (some ⟨w2.heap.size, 0, none⟩) 1 1 [_] rfl rfl rfl (own_below HO2.out ((Below.refl _ _).alloc (Nat.le_refl _) _)) (rd_blk (Blk.new _ _ _)) ?h1 ?h2 ?h3 ?h4 ?_
               rotate_left 4
               intro v3 w3 happ
               have HA3 := Lib.hid happ.alloc
               clear happ))
          case h1 => simp [Value.oneCell']
          case h2 => rw [HLM.out]; simp only [maxLen, List.length_cons, List.length_nil]; omega
          case h3 => rw [HLM.out]; simp only [List.length_cons, List.length_nil]; omega
          case h4 => rw [alloc_size]; omega
          have hHA := HA3.out
          have hzs : ivs (ns.map Int.ofNat) ++ [Value.int .i64 (n : Int)] = ivs ((ns ++ [n]).map Int.ofNat) := by simp [iv]
          rw [hzs] at hHA
          go_roundg (K - (k + 1))
          case measure => have := HD.out; omega
          case rel =>
            refine ⟨k + 1, a2, ns ++ [n], by omega, by omega, by go_num, (by show _ = _; rw [List.length_append, HL.out]; rfl), by have := hHA.grown.size; omega, HE2, ?_, ?_, hHA.own⟩
            · exact grown_new HG2.out hHA.grown fun i hi => own_base HO2.out _ hi
            · exact HH.out.own_step HR2.out HO2.out (Nat.le_refl _) (by decide) hHA.grown
        · go_wp2_with fail
          refine ⟨rfl, grown_trans HG.out hg2, .inr ⟨_, ?_, rfl⟩⟩
          unfold rnodes
          rw [HR1.out]
          show rnums b 5 K a1 = _
          rw [HE.out]
          unfold rgo
          rw [show K - k = (K - (k + 1)) + 1 by omega, rnums, hr2]
      · go_wp2_with fail
        go_ret
        refine ⟨HG.out, .inl ⟨ns, a, _, ?_, by rw [HL.out]; omega, rfl, HR.out, HO.out⟩⟩
        unfold rnodes
        rw [HR1.out]
        show rnums b 5 K a1 = _
        rw [HE.out]
        unfold rgo
        rw [show K - k = 0 by omega, rnums]
        simp
  · go_wp2_with fail
    refine ⟨rfl, hg1, .inr ⟨_, ?_, rfl⟩⟩
    unfold rnodes; rw [hr1]
end Go.Proofs.YtmgandacmhkndaaDoor
