/- string(b) of bytes that read. No program. No conditions. -/
import Derived.Test.YtmgandacmhkndaaDoorMem
import Derived.Laws.BytesString
import Derived.Laws.Cells
namespace Go.Proofs.YtmgandacmhkndaaDoor
open Go.RowKit

/-- string(b) of bytes that read. -/
theorem push_all (bs : List UInt8) : ∀ s : ByteArray, (bs.map fun b => (b.toNat : Int)).foldl (fun (r : ByteArray) (n : Int) => r.push (UInt8.ofNat n.toNat)) s = ⟨s.data ++ bs.toArray⟩ := by
  induction bs with
  | nil => intro s; simp
  | cons b r ih =>
    intro s
    rw [List.map_cons, List.foldl_cons, ih]
    congr 1
    simp [ByteArray.push]
theorem run_str_rd {P : Program} (w : World) (src dst e : TypeId) (hs : P.underlying src = some (.slice e)) (he : P.underlying e = some (.int .u8)) (hd : P.underlying dst = some .string)
    (A : Option Addr) (n c : Nat) (bs : List UInt8) (hn : n = bs.length) (hr : Rd w A (bvs bs)) : (convert src dst (.slice A n c)).run P w = .ok (.string ⟨bs.toArray⟩) w := by
  subst hn
  rw [run_convert_bytes_string w src dst e A bs.length c hs he hd]
  rcases A with _ | ad
  · have hb : bs = [] := by
      rcases hr with h | ⟨ad, h, _⟩
      · simpa using h
      · cases h
    subst hb
    rfl
  · have hcells : ∀ j v, (bvs bs)[j]? = some v → w.cell? (ad.add j) = some v := by
      rcases hr with h | ⟨ad', h, hc⟩
      · rw [h]; simp
      · injection h with h; subst h; exact hc
    have hl := run_loadCells_list (P := P) w ad (bvs bs) hcells
    have hl2 : (loadCells ad bs.length).run P w = .ok ((bs.map fun b => (b.toNat : Int)).map (Value.int .u8)).toArray w := by
      rw [List.length_map] at hl
      rw [hl]
      simp [bv, List.map_map, Function.comp_def]
    rw [run_bytesToString w ad bs.length c _ hl2, push_all]
    congr 2
    simp [ByteArray.empty, ByteArray.emptyWithCapacity]
    rfl
end Go.Proofs.YtmgandacmhkndaaDoor
