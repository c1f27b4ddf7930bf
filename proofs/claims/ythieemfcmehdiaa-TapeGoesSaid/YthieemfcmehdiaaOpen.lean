/- The arguments opened: a slice of bytes. -/
import Derived.Test.YthieemfcmehdiaaFew
import Derived.SliceStrings
import Derived.Deep.Slices
namespace Go.Proofs.Ythieemfcmehdiaa
open Go.RowKit Go.ChangeShapes Go.WideShapes Go.ChangeAt
theorem byte_of_wf {z : Int} (h : (Lit.int .u8 z).wf = true) : ((UInt8.ofNat z.toNat).toNat : Int) = z := by
  have := u8_bd h
  simp only [UInt8.toNat_ofNat']
  omega
section
variable {H : Type} {enc : TypeId × Value → H}
theorem open_bytes {w : World} {b0 : Nat} {v : Value} {d : DataW H} {ps : List MemPlace} (hval : Value.okWide Try.prog w .any b0 30 v) (hd : DataW.Trod enc Try.prog w 0 (fun _ => true) true 30 v d ps) :
    ∃ A l c, v = .slice A (List.length l) c ∧ Reads w A (bytesV l) ∧ (A = none → c = 0) ∧ l.length ≤ c := by
  obtain ⟨A, len, cap, rfl⟩ := okWide_slice Try.underlying30 hval
  obtain ⟨fuel, hf⟩ := hd
  rcases open_ints Try.underlying30 Try.underlying5 (by kernel_rfl) hf with ⟨hcs, _⟩ | ⟨x, n, c, zs, hcs, _, hl, hm, hz, _, hcell, hwz⟩
  · simp [Value.cells] at hcs
    obtain ⟨rfl, rfl, rfl⟩ := hcs
    exact ⟨none, [], 0, rfl, ⟨by simp [bytesV], fun i hi => by simp [bytesV] at hi⟩, fun _ => rfl, Nat.le_refl _⟩
  · simp [Value.cells] at hcs
    obtain ⟨rfl, rfl, rfl⟩ := hcs
    simp only [if_true] at hz
    refine ⟨some x, (zs.take len).map fun z => UInt8.ofNat z.toNat, cap, by simp; omega, ⟨by simp [bytesV]; unfold maxLen at hm; omega, fun i hi => ⟨x, rfl, ?_⟩⟩, fun h => (by cases h), by simp; omega⟩
    simp only [bytesV, List.length_map, List.length_take] at hi
    rw [hcell i (by omega)]
    simp only [bytesV, List.getElem_map, List.getElem_take]
    rw [byte_of_wf (hwz _ (List.getElem_mem _)), List.getD_eq_getElem?_getD, List.getElem?_eq_getElem (by omega), Option.getD_some]
theorem choose_list {α : Type} [Inhabited α] {n : Nat} {P : Nat → α → Prop} (h : ∀ i, i < n → ∃ a, P i a) : ∃ l : List α, l.length = n ∧ ∀ i (hi : i < l.length), P i l[i] := by
  have h' : ∀ i, ∃ a, i < n → P i a := fun i => by
    by_cases hi : i < n
    · obtain ⟨a, ha⟩ := h i hi; exact ⟨a, fun _ => ha⟩
    · exact ⟨default, fun h => absurd h hi⟩
  refine ⟨(List.range n).map fun i => (h' i).choose, by simp, fun i hi => ?_⟩
  simp at hi
  simpa using (h' i).choose_spec hi
instance : Inhabited Step := ⟨⟨0, 0, 0, none, 0, []⟩⟩
theorem cellsOf32 : Try.prog.cellsOf 32 = 4 := by kernel_rfl
theorem one3 : Try.prog.cellsOf 3 = 1 := by kernel_rfl
theorem one30 : Try.prog.cellsOf 30 = 1 := by kernel_rfl
theorem trod_bytes {w : World} {n : Nat} {v : Value} {y : DataW H × List MemPlace} (hf : DataW.trod enc Try.prog w 0 (fun _ => true) true n 30 [v] = some y) :
    ∃ A l c, v = .slice A (List.length l) c ∧ Reads w A (bytesV l) ∧ (A = none → c = 0) ∧ l.length ≤ c := by
  rcases open_ints Try.underlying30 Try.underlying5 (by kernel_rfl) hf with ⟨hcs, _⟩ | ⟨x, len, cap, zs, hcs, _, hl, hm, hz, _, hcell, hwz⟩
  · simp at hcs
    subst hcs
    exact ⟨none, [], 0, rfl, ⟨by simp [bytesV], fun i hi => by simp [bytesV] at hi⟩, fun _ => rfl, Nat.le_refl _⟩
  · simp at hcs
    subst hcs
    simp only [if_true] at hz
    have hlen : ((zs.take len).map fun z => UInt8.ofNat z.toNat).length = len := by simp; omega
    refine ⟨some x, (zs.take len).map fun z => UInt8.ofNat z.toNat, cap, by rw [hlen], ⟨by simp [bytesV]; unfold maxLen at hm; omega, fun i hi => ⟨x, rfl, ?_⟩⟩, fun h => (by cases h), by rw [hlen]; exact hl⟩
    simp only [bytesV, List.length_map, List.length_take] at hi
    rw [hcell i (by omega)]
    simp only [bytesV, List.getElem_map, List.getElem_take]
    rw [byte_of_wf (hwz _ (List.getElem_mem _)), List.getD_eq_getElem?_getD, List.getElem?_eq_getElem (by omega), Option.getD_some]
theorem open_dos {w : World} {b0 : Nat} {v : Value} {d : DataW H} {ps : List MemPlace} (hval : Value.okWide Try.prog w .any b0 22 v) (hd : DataW.Trod enc Try.prog w 0 (fun _ => true) true 22 v d ps) :
    ∃ A l c, v = .slice A (List.length l) c ∧ ReadsD w A l ∧ (A = none → c = 0) ∧ l.length ≤ c := by
  obtain ⟨A, len, cap, rfl⟩ := okWide_slice Try.underlying22 hval
  obtain ⟨fuel, hf⟩ := hd
  rcases Deep.open_slice Try.underlying22 hf with ⟨hcs, _⟩ | ⟨x, n, c, m, k, D, Pl, hcs, _, hl, hm, hmm, _, hi⟩
  · simp [Value.cells] at hcs
    obtain ⟨rfl, rfl, rfl⟩ := hcs
    exact ⟨none, [], 0, rfl, ⟨by simp, fun i hi => by simp at hi⟩, fun _ => rfl, Nat.le_refl _⟩
  · simp [Value.cells] at hcs
    obtain ⟨rfl, rfl, rfl⟩ := hcs
    simp only [if_true] at hmm
    have hel : ∀ i, i < len → ∃ t : Step, w.cell? (x.add (i * 4)) = some (.int .i64 t.verb) ∧ w.cell? ⟨(x.add (i * 4)).block, (x.add (i * 4)).off + 1, none⟩ = some (.int .i64 t.n) ∧ w.cell? ⟨(x.add (i * 4)).block, (x.add (i * 4)).off + 2, none⟩ = some (.int .i64 t.m) ∧
        w.cell? ⟨(x.add (i * 4)).block, (x.add (i * 4)).off + 3, none⟩ = some (.slice t.B t.l.length t.k) ∧ Reads w t.B (bytesV t.l) ∧ (t.B = none → t.k = 0) ∧ t.l.length ≤ t.k := fun i hlt => by
      obtain ⟨cs', hc, ht⟩ := hi i (by omega)
      rw [cellsOf32] at hc
      obtain ⟨_, hlen, hat⟩ := World.cells?_some hc
      match cs', hlen with
      | [v0, v1, v2, v3], _ =>
        obtain ⟨xs, n', _, _, _, hxl, hf⟩ := DataW.trod_struct Try.underlying32 ht
        match xs, hxl with
        | [y0, y1, y2, y3], _ =>
          have f0 : DataW.trod enc Try.prog w 0 (fun _ => true) true n' 3 (([v0, v1, v2, v3].drop 0).take (Try.prog.cellsOf 3)) = some y0 := hf 0 _ rfl
          have f1 : DataW.trod enc Try.prog w 0 (fun _ => true) true n' 3 (([v0, v1, v2, v3].drop 1).take (Try.prog.cellsOf 3)) = some y1 := hf 1 _ rfl
          have f2 : DataW.trod enc Try.prog w 0 (fun _ => true) true n' 3 (([v0, v1, v2, v3].drop 2).take (Try.prog.cellsOf 3)) = some y2 := hf 2 _ rfl
          have f3 : DataW.trod enc Try.prog w 0 (fun _ => true) true n' 30 (([v0, v1, v2, v3].drop 3).take (Try.prog.cellsOf 30)) = some y3 := hf 3 _ rfl
          rw [one3] at f0 f1 f2
          rw [one30] at f3
          obtain ⟨n0, e0, _, w0⟩ := DataW.trod_int Try.underlying3 f0
          obtain ⟨n1, e1, _, w1⟩ := DataW.trod_int Try.underlying3 f1
          obtain ⟨n2, e2, _, w2⟩ := DataW.trod_int Try.underlying3 f2
          simp at e0 e1 e2
          subst e0 e1 e2
          obtain ⟨B, l, k3, rfl, hr, hn, hk⟩ := trod_bytes f3
          exact ⟨⟨n0, n1, n2, B, k3, l⟩, hat 0 (by decide), hat 1 (by decide), hat 2 (by decide), hat 3 (by decide), hr, hn, hk⟩
    obtain ⟨l, hll, hl'⟩ := choose_list hel
    subst hll
    exact ⟨some x, l, cap, rfl, ⟨by unfold maxLen at hm; omega, fun i hi => ⟨x, rfl, hl' i hi⟩⟩, fun h => (by cases h), hl⟩
end
end Go.Proofs.Ythieemfcmehdiaa
