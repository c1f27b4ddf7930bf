/- The arguments opened: slices of ints, of strings. -/
import Derived.Test.YtlekhibddmbjnaaGen
import Derived.SliceStrings
namespace Go.Proofs.Ytlekhibddmbjnaa
open Go.RowKit Go.ChangeShapes Go.WideShapes Go.ChangeAt
section
variable {H : Type} {enc : TypeId × Value → H}
theorem open_intslice {w : World} {b0 : Nat} {v : Value} {d : DataW H} {ps : List MemPlace} (hval : Value.okWide Try.prog w .any b0 22 v) (hd : DataW.Trod enc Try.prog w 0 (fun _ => true) true 22 v d ps) :
    ∃ A l c, v = .slice A (List.length l) c ∧ Reads w A (l.map (Value.int .i64)) ∧ (A = none → c = 0) ∧ ∀ n ∈ l, (Lit.int .i64 n).wf = true := by
  obtain ⟨A, len, cap, rfl⟩ := okWide_slice Try.underlying22 hval
  obtain ⟨fuel, hf⟩ := hd
  rcases open_ints Try.underlying22 Try.underlying3 (by kernel_rfl) hf with ⟨hcs, _⟩ | ⟨x, n, c, zs, hcs, _, hl, hm, hz, _, hcell, hwz⟩
  · simp [Value.cells] at hcs
    obtain ⟨rfl, rfl, rfl⟩ := hcs
    exact ⟨none, [], 0, rfl, ⟨by simp, fun i hi => by simp at hi⟩, fun _ => rfl, fun n hn => by cases hn⟩
  · simp [Value.cells] at hcs
    obtain ⟨rfl, rfl, rfl⟩ := hcs
    simp only [if_true] at hz
    refine ⟨some x, zs.take len, cap, by simp; omega, ⟨by simp; unfold maxLen at hm; omega, fun i hi => ⟨x, rfl, ?_⟩⟩, fun h => (by cases h), fun n hn => hwz n (List.mem_of_mem_take hn)⟩
    simp only [List.length_map, List.length_take] at hi
    rw [hcell i (by omega), List.getElem_map, List.getElem_take, List.getD_eq_getElem?_getD, List.getElem?_eq_getElem (by omega), Option.getD_some]
theorem open_strslice {w : World} {b0 : Nat} {v : Value} {d : DataW H} {ps : List MemPlace} (hval : Value.okWide Try.prog w .any b0 37 v) (hd : DataW.Trod enc Try.prog w 0 (fun _ => true) true 37 v d ps) :
    ∃ A l c, v = .slice A (List.length l) c ∧ Reads w A (l.map Value.string) ∧ (A = none → c = 0) := by
  obtain ⟨A, len, cap, rfl⟩ := okWide_slice Try.underlying37 hval
  obtain ⟨fuel, hf⟩ := hd
  rcases open_strings Try.underlying37 Try.underlying9 (by kernel_rfl) hf with ⟨hcs, _⟩ | ⟨x, n, c, zs, hcs, _, hl, hm, hz, _, hcell, hwz⟩
  · simp [Value.cells] at hcs
    obtain ⟨rfl, rfl, rfl⟩ := hcs
    exact ⟨none, [], 0, rfl, ⟨by simp, fun i hi => by simp at hi⟩, fun _ => rfl⟩
  · simp [Value.cells] at hcs
    obtain ⟨rfl, rfl, rfl⟩ := hcs
    simp only [if_true] at hz
    refine ⟨some x, zs.take len, cap, by simp; omega, ⟨by simp; unfold maxLen at hm; omega, fun i hi => ⟨x, rfl, ?_⟩⟩, fun h => by cases h⟩
    simp only [List.length_map, List.length_take] at hi
    rw [hcell i (by omega), List.getElem_map, List.getElem_take, List.getD_eq_getElem?_getD, List.getElem?_eq_getElem (by omega), Option.getD_some]
end
end Go.Proofs.Ytlekhibddmbjnaa
