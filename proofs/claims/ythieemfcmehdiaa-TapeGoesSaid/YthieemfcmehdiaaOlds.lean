/- The cells of items as one list. -/
import Derived.Test.YthieemfcmehdiaaBase
namespace Go.Proofs.Ythieemfcmehdiaa
open Go.RowKit
def OldsOf (w : World) (T : Nat) (xs : List Thing) (m : Nat) (olds : List Value) : Prop :=
  ∀ i (h : i < xs.length), i < m → olds[2 * i]? = some (.bool xs[i].1) ∧ ∃ B k, olds[2 * i + 1]? = some (.slice B xs[i].2.length k) ∧ BytesOut w T B k xs[i].2
theorem olds_to {w : World} {T : Nat} {A : Option Addr} {xs : List Thing} (h : Items w T A xs) : ∀ m, m ≤ xs.length →
    ∃ olds : List Value, olds.length = 2 * m ∧ (∀ ad, A = some ad → ∀ j v, olds[j]? = some v → w.cell? (ad.add j) = some v) ∧ OldsOf w T xs m olds := by
  intro m
  induction m with
  | zero => intro _; exact ⟨[], rfl, fun _ _ j v hj => by simp at hj, fun i _ hi => absurd hi (Nat.not_lt_zero _)⟩
  | succ m ih =>
    intro hm
    obtain ⟨olds, hl, hc, ho⟩ := ih (by omega)
    obtain ⟨ad, e, _, c1, B, k, c2, hb⟩ := h m (by omega)
    refine ⟨olds ++ [.bool xs[m].1, .slice B xs[m].2.length k], by simp; omega, fun ad' e' j v hj => ?_, fun i hi hm' => ?_⟩
    · rw [e] at e'
      cases e'
      by_cases hlt : j < olds.length
      · rw [List.getElem?_append_left hlt] at hj
        exact hc ad e j v hj
      · rw [List.getElem?_append_right (by omega), hl] at hj
        by_cases h0 : j = 2 * m
        · subst h0; simp at hj; subst hj; exact c1
        · by_cases h1 : j = 2 * m + 1
          · subst h1; simp at hj; subst hj; exact c2
          · rw [List.getElem?_eq_none (by simp; omega)] at hj; cases hj
    · by_cases hlt : i < m
      · obtain ⟨o1, B', k', o2, o3⟩ := ho i hi hlt
        exact ⟨by rw [List.getElem?_append_left (by omega)]; exact o1, B', k', by rw [List.getElem?_append_left (by omega)]; exact o2, o3⟩
      · obtain rfl : i = m := by omega
        refine ⟨?_, B, k, ?_, hb⟩
        · rw [List.getElem?_append_right (by omega), hl]; simp
        · rw [List.getElem?_append_right (by omega), hl, show 2 * i + 1 - 2 * i = 1 by omega]; rfl
theorem items_grown {w W : World} {T g : Nat} {xs : List Thing} {olds : List Value} {tail : Array Value} {b : Bool} {B : Option Addr} {k : Nat} {l : List UInt8} (ho : OldsOf w T xs xs.length olds) (hl : olds.length = 2 * xs.length) (hx : BytesOut w T B k l)
    (hW : W.heap[g]? = some (.cells ((olds ++ [Value.bool b, Value.slice B l.length k]).toArray ++ tail) 44 (0, 0))) (hg : g ≠ T) (r : Rest T w W) : Items W T (some ⟨g, 0, none⟩) (xs ++ [(b, l)]) := by
  have row : ∀ j v, (olds ++ [Value.bool b, .slice B l.length k])[j]? = some v → W.cell? ⟨g, j, none⟩ = some v := fun j v hj => by
    rw [cell_of_row W g j _ _ _ hW]
    have hlt := (List.getElem?_eq_some_iff.1 hj).1
    rw [Array.getElem?_append_left (by simpa using hlt)]
    simpa using hj
  intro i hi
  refine ⟨_, rfl, hg, ?_⟩
  rw [add_plain', add_plain']
  by_cases hlt : i < xs.length
  · obtain ⟨o1, B', k', o2, o3⟩ := ho i hlt hlt
    rw [List.getElem_append_left hlt]
    exact ⟨row _ _ (by rw [List.getElem?_append_left (by omega)]; exact o1), B', k', row _ _ (by rw [List.getElem?_append_left (by omega)]; exact o2), o3.keep r⟩
  · have hie : i = xs.length := by simp at hi; omega
    subst hie
    rw [List.getElem_concat_length (by rfl)]
    refine ⟨row _ _ ?_, B, k, row _ _ ?_, hx.keep r⟩
    · rw [List.getElem?_append_right (by omega), hl]; simp
    · rw [List.getElem?_append_right (by omega), hl, show 2 * xs.length + 1 - 2 * xs.length = 1 by omega]; rfl
end Go.Proofs.Ythieemfcmehdiaa
