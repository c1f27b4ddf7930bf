/- The arguments opened: a slice of bytes. -/
import Derived.Test.YthieemfcmehdiaaBase
import Derived.SliceStrings
import Derived.Deep.Slices
namespace Go.Proofs.Ythieemfcmehdiaa
open Go.RowKit Go.ChangeShapes Go.WideShapes Go.ChangeAt
theorem byte_of_wf {z : Int} (h : (Lit.int .u8 z).wf = true) : ((UInt8.ofNat z.toNat).toNat : Int) = z := by
  have := u8_bd h
  simp only [UInt8.toNat_ofNat']
  omega
section
variable {H : Type} {enc : TypeId × Value → H}
theorem open_bytes {w : World} {b0 : Nat} {v : Value} {d : DataW H} {ps : List MemPlace} (hval : Value.okWide Try.prog w .any b0 30 v) (hd : DataW.Trod enc Try.prog w 0 (fun _ => true) true 30 v d ps) :
    ∃ A l c, v = .slice A (List.length l) c ∧ Reads w A (bytesV l) ∧ (A = none → c = 0) ∧ l.length ≤ c := by
  obtain ⟨A, len, cap, rfl⟩ := okWide_slice Try.underlying30 hval
  obtain ⟨fuel, hf⟩ := hd
  rcases open_ints Try.underlying30 Try.underlying5 (by kernel_rfl) hf with ⟨hcs, _⟩ | ⟨x, n, c, zs, hcs, _, hl, hm, hz, _, hcell, hwz⟩
  · simp [Value.cells] at hcs
    obtain ⟨rfl, rfl, rfl⟩ := hcs
    exact ⟨none, [], 0, rfl, ⟨by simp [bytesV], fun i hi => by simp [bytesV] at hi⟩, fun _ => rfl, Nat.le_refl _⟩
  · simp [Value.cells] at hcs
    obtain ⟨rfl, rfl, rfl⟩ := hcs
    simp only [if_true] at hz
    refine ⟨some x, (zs.take len).map fun z => UInt8.ofNat z.toNat, cap, by simp; omega, ⟨by simp [bytesV]; unfold maxLen at hm; omega, fun i hi => ⟨x, rfl, ?_⟩⟩, fun h => (by cases h), by simp; omega⟩
    simp only [bytesV, List.length_map, List.length_take] at hi
    rw [hcell i (by omega)]
    simp only [bytesV, List.getElem_map, List.getElem_take]
    rw [byte_of_wf (hwz _ (List.getElem_mem _)), List.getD_eq_getElem?_getD, List.getElem?_eq_getElem (by omega), Option.getD_some]
end
end Go.Proofs.Ythieemfcmehdiaa
