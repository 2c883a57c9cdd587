/- Numbers and texts: what is written is read as it was; a strict beginning is none. Plain. -/
import Derived.Test.YtmgandacmhkndaaDoorGetT
namespace Go.Proofs.YtmgandacmhkndaaDoor
open Go.RowKit

/-- A text's bytes. -/
def txt (s : ByteArray) : List UInt8 := vr s.size ++ s.data.toList
theorem txt_len (s : ByteArray) : (txt s).length = (vr s.size).length + s.size := by unfold txt; rw [List.length_append]; rfl
theorem str_eta (s : ByteArray) : (⟨s.data.toList.toArray⟩ : ByteArray) = s := by cases s; simp
theorem getT_txt {s : ByteArray} (hs : s.size < 18446744073709551616) (rest : List UInt8) : getT (txt s ++ rest) s.size = (s.data.toList, (txt s).length) := by
  have hg : getN (txt s ++ rest) = (s.size, (vr s.size).length) := by unfold txt; rw [List.append_assoc]; exact getN_vr hs _
  have hp := vr_pos s.size
  unfold getT
  rw [hg, if_neg (by rw [List.length_append, txt_len]; simp only; omega)]
  simp only [txt_len]
  congr 1
  unfold txt
  rw [List.append_assoc, List.drop_left]
  have : s.size = s.data.toList.length := rfl
  rw [this, List.take_left]
theorem getT_big {s : ByteArray} (hs : s.size < 18446744073709551616) : (getT (txt s) ((s.size : Int) - 1)).2 = 0 := by
  have hg : getN (txt s) = (s.size, (vr s.size).length) := getN_vr hs _
  unfold getT
  rw [hg, if_pos (by simp only; omega)]
theorem getN_cut {n i : Nat} (hn : n < 18446744073709551616) (h : i < (vr n).length) : (getN ((vr n).take i)).2 = 0 :=
  getN_short hn (List.take_append_drop i (vr n)).symm (by intro e; have := congrArg List.length e; rw [List.length_drop, List.length_nil] at this; omega)
theorem getT_cut {s : ByteArray} {j : Nat} (hs : s.size < 18446744073709551616) (h : j < (txt s).length) : (getT ((txt s).take j) (s.size : Int)).2 = 0 := by
  rw [txt_len] at h
  by_cases hj : j < (vr s.size).length
  · have ht : (txt s).take j = (vr s.size).take j := by unfold txt; rw [List.take_append_of_le_length (by omega)]
    unfold getT
    rw [ht, if_pos (.inl (getN_cut hs hj))]
  · have ht : (txt s).take j = vr s.size ++ s.data.toList.take (j - (vr s.size).length) := by unfold txt; rw [List.take_append, List.take_of_length_le (by omega)]
    unfold getT
    rw [ht, getN_vr hs, if_pos (by simp only [List.length_append, List.length_take]; have : s.data.toList.length = s.size := rfl; omega)]
end Go.Proofs.YtmgandacmhkndaaDoor
