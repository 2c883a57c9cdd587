/- low.Var's walk: a number's bytes stand behind the bytes. Conditions: the number is not below 0; so many bytes as there is room. -/
import Derived.Test.YtmgandacmhkndaaDoorProg
import Derived.Test.YtmgandacmhkndaaDoorMem
import Derived.Test.YtmgandacmhkndaaDoorVar
import Derived.WalkKit
import Derived.WalkLawsBesides
import Derived.WalkSpells
namespace Go.Proofs.YtmgandacmhkndaaDoor
open Go.RowKit
set_option maxRecDepth 100000

theorem info_u8 : (Tryd.prog.info? 5).map (fun i => (i.zero, i.size, i.bytes)) = some (some (.int .u8 0), 1, 1) := by kernel_rfl
theorem info_int : (Tryd.prog.info? 3).map (fun i => (i.zero, i.size, i.bytes)) = some (some (.int .i64 0), 1, 8) := by kernel_rfl
abbrev OwnB (w : World) (base : Nat) (v : Value) (bs : List UInt8) : Prop := w.ownsRow base 5 1 v (bvs bs).length (bvs bs)
abbrev AppB (base : Nat) (w : World) (v : Value) (w' : World) (v' : Value) (bs : List UInt8) : Prop := App 5 base w v w' v' (bvs bs)

theorem bits_or_all : ∀ r : Fin 256, Go.bits .or .u8 ((r.val : Nat) : Int) 128 = ((r.val % 128 + 128 : Nat) : Int) := by decide +kernel
theorem byte_or (n : Nat) (_h : 128 ≤ n) : Go.bits .or .u8 ((n : Int) % 256) 128 = ((UInt8.ofNat (n % 128 + 128)).toNat : Int) := by
  rw [toNat_of (by omega)]
  have h := bits_or_all ⟨n % 256, Nat.mod_lt _ (by omega)⟩
  simp only at h
  rw [show n % 256 % 128 = n % 128 by omega] at h
  exact h
theorem byte_of (n : Nat) (h : n < 128) : (n : Int) = ((UInt8.ofNat n).toNat : Int) := by rw [toNat_of (by omega)]

/-- One byte more. -/
theorem App.byte {base : Nat} {w wr w1 : World} {v b b1 : Value} {cs : List UInt8} {o : Obj} {x : Int} {c : UInt8} (h : AppB base w v wr b cs)
    (k : App 5 base (wr.alloc o) b w1 b1 (bvs cs ++ [.int .u8 x])) (hx : x = (c.toNat : Int)) : AppB base w v w1 b1 (cs ++ [c]) := by
  have k' : AppB base wr b w1 b1 (cs ++ [c]) := by
    have h2 : bvs (cs ++ [c]) = bvs cs ++ [.int .u8 x] := by simp [bv, hx]
    unfold AppB; rw [h2]; exact k.alloc
  exact App.trans h k'

set_option maxHeartbeats 2000000 in
theorem var_any (base : Nat) (v : Value) (bs : List UInt8) (n : Nat) (w : World) (hn : n ≤ 9223372036854775807) (hown : OwnB w base v bs) (hbase : base ≤ w.heap.size) (hl : bs.length ≤ 1000000000000) :
    Calls Tryd.prog 61 #[v, .int .i64 n] w fun e w' => ∃ v', e = .returned v' ∧ AppB base w v w' v' (bs ++ vr n) := by
  have hv10 : (vr n).length ≤ 10 := vr_len64 (by omega)
  go_enter Tryd.func61, Tryd.ntmps61
  go_wp2
  go_loopg [0, 1] n (fun d b i wr => ∃ (cs : List UInt8) (m : Nat), d = m ∧ m ≤ n ∧ i = .int .i64 m ∧ Hid (bs ++ vr n = cs ++ vr m) ∧ Hid (AppB base w v wr b cs))
  case atStart => exact ⟨bs, n, rfl, Nat.le_refl _, rfl, rfl, App.refl hown⟩
  case round =>
    obtain ⟨cs, m, hd, hm, rfl, HC, HA⟩ := hrel
    have HD := Lib.hid hd
    clear hd
    have hcl : cs.length ≤ bs.length + 10 := by
      have := congrArg List.length HC.out
      simp only [List.length_append] at this
      omega
    have hsz := HA.out.grown.size
    by_cases hb : 128 ≤ m
    · go_wp2_with (first
        | (at_builtin
           refine wpList_append_rd _ rfl (.tmp 9) (.tmp 13) 24 rfl base 5 _ 1 Tryd.underlying24 info_u8 rfl _ (bvs cs) (some ⟨wr.heap.size, 0, none⟩) 1 1 [_] rfl rfl rfl (own_below HA.out.own ((Below.refl _ _).alloc (Nat.le_refl _) _)) (rd_blk (Blk.new _ _ _)) ?h1 ?h2 ?h3 ?h4 ?_
           rotate_left 4
           intro b1 w1 happ
           have HA1 := Lib.hid (App.byte HA.out happ (byte_or m hb))
           clear happ))
      case h1 => simp [Value.oneCell']
      case h2 => simp only [maxLen, List.length_map, List.length_cons, List.length_nil]; omega
      case h3 => simp only [List.length_map, List.length_cons, List.length_nil]; omega
      case h4 => rw [alloc_size]; omega
      have HC1 : Hid (bs ++ vr n = (cs ++ [UInt8.ofNat (m % 128 + 128)]) ++ vr (m / 128)) := by
        show _ = _
        rw [HC.out, vr_big (by omega)]; simp
      go_roundg (m / 128)
      case measure => have := HD.out; omega
      case rel => exact ⟨_, m / 128, rfl, by omega, by go_num, HC1, HA1⟩
    · go_wp2_with (first
        | (at_builtin
           refine wpList_append_rd _ rfl (.tmp 15) (.tmp 18) 24 rfl base 5 _ 1 Tryd.underlying24 info_u8 rfl _ (bvs cs) (some ⟨wr.heap.size, 0, none⟩) 1 1 [_] rfl rfl rfl (own_below HA.out.own ((Below.refl _ _).alloc (Nat.le_refl _) _)) (rd_blk (Blk.new _ _ _)) ?h1 ?h2 ?h3 ?h4 ?_
           rotate_left 4
           intro b1 w1 happ
           have HA1 := Lib.hid (App.byte HA.out happ (byte_of m (by omega)))
           clear happ))
      case h1 => simp [Value.oneCell']
      case h2 => simp only [maxLen, List.length_map, List.length_cons, List.length_nil]; omega
      case h3 => simp only [List.length_map, List.length_cons, List.length_nil]; omega
      case h4 => rw [alloc_size]; omega
      go_ret
      refine ⟨_, rfl, ?_⟩
      rw [HC.out, vr_small (by omega)]
      exact HA1.out

/-- The bytes of numbers, one behind the other. -/
def vrs (ns : List Nat) : List UInt8 := ns.flatMap vr
theorem vrs_snoc (ns : List Nat) (n : Nat) : vrs (ns ++ [n]) = vrs ns ++ vr n := by simp [vrs]
theorem vrs_take (ns : List Nat) (k : Nat) (h : k < ns.length) : vrs (ns.take (k + 1)) = vrs (ns.take k) ++ vr ns[k] := by
  rw [List.take_succ_eq_append_getElem h, vrs_snoc]
theorem vrs_len (ns : List Nat) (h : ∀ n ∈ ns, n ≤ 9223372036854775807) : (vrs ns).length ≤ 10 * ns.length := by
  induction ns with
  | nil => simp [vrs]
  | cons n r ih =>
    have h1 := ih fun m hm => h m (List.mem_cons_of_mem _ hm)
    have h2 := vr_len64 (n := n) (by have := h n (List.mem_cons_self ..); omega)
    simp only [vrs, List.flatMap_cons, List.length_append, List.length_cons] at h1 ⊢
    omega
end Go.Proofs.YtmgandacmhkndaaDoor
