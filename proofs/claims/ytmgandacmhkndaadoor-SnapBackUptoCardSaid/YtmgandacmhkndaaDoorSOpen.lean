/- SnapBack's walk for whole numbers as the model has them; a text's size from its bulk. -/
import Derived.Test.YtmgandacmhkndaaDoorSBack
import Derived.Test.YtmgandacmhkndaaDoorOpen
import Derived.ChangeMaps5
namespace Go.Proofs.YtmgandacmhkndaaDoor
open Go.RowKit
set_option maxRecDepth 100000

theorem str_size {H : Type} {s : ByteArray} (h : Rows.uptoBulk (H := H) (.lit (.string s.data.toList)) ≤ 1048576) : s.size ≤ 1048576 := by
  simp only [Rows.uptoBulk] at h
  have : s.data.toList.length = s.size := rfl
  omega
theorem sback_int (n : Int) (s : ByteArray) (Ab : Option Addr) (cb : Nat) (bl : List UInt8) (cut : Int) (w : World) (hg : ErrT w) (hn0 : 0 ≤ n) (hn : n ≤ 18446744073709551615) (hs : s.size ≤ 1048576) (hb : Rd w Ab (bvs bl)) (hbl : bl.length ≤ 1048576)
    (hc0 : -9223372036854775808 ≤ cut) (hc1 : cut ≤ 9223372036854775807) :
    Calls Tryd.prog 8 #[.int .u64 n, .string s, .slice Ab bl.length cb, .int .i64 cut] w fun e w' => e = .returned (.bool true) ∧ Below w.heap.size w w' := by
  obtain ⟨m, rfl⟩ := Int.eq_ofNat_of_zero_le hn0
  exact sback_any m s Ab cb bl cut w hg (by omega) hs hb hbl hc0 hc1
end Go.Proofs.YtmgandacmhkndaaDoor
