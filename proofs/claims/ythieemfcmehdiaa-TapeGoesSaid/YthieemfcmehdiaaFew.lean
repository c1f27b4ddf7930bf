/- few: the steps in memory. -/
import Derived.Test.YthieemfcmehdiaaBase
namespace Go.Proofs.Ythieemfcmehdiaa
open Go.RowKit
set_option linter.unusedSimpArgs false
set_option linter.unusedVariables false
/-- a step -/
structure Step where
  verb : Int
  n : Int
  m : Int
  B : Option Addr
  k : Nat
  l : List UInt8
/-- a slice of steps, read -/
def ReadsD (w : World) (A : Option Addr) (ds : List Step) : Prop := ds.length ≤ 9223372036854775807 ∧ ∀ i (h : i < ds.length), ∃ ad, A = some ad ∧ w.cell? (ad.add (i * 4)) = some (.int .i64 ds[i].verb) ∧
  w.cell? ⟨(ad.add (i * 4)).block, (ad.add (i * 4)).off + 1, none⟩ = some (.int .i64 ds[i].n) ∧ w.cell? ⟨(ad.add (i * 4)).block, (ad.add (i * 4)).off + 2, none⟩ = some (.int .i64 ds[i].m) ∧
  w.cell? ⟨(ad.add (i * 4)).block, (ad.add (i * 4)).off + 3, none⟩ = some (.slice ds[i].B ds[i].l.length ds[i].k) ∧ Reads w ds[i].B (bytesV ds[i].l) ∧ (ds[i].B = none → ds[i].k = 0) ∧ ds[i].l.length ≤ ds[i].k
theorem ReadsD.below {w w' : World} {A : Option Addr} {ds : List Step} (h : ReadsD w A ds) (b : Below w.heap.size w w') : ReadsD w' A ds := ⟨h.1, fun i hi => by
  obtain ⟨ad, e, c0, c1, c2, c3, hr, hn⟩ := h.2 i hi
  exact ⟨ad, e, cell_below b c0, cell_below b c1, cell_below b c2, cell_below b c3, hr.below b, hn⟩⟩
set_option maxHeartbeats 1000000 in
set_option maxRecDepth 100000 in
theorem few_any {w : World} {A : Option Addr} {c : Nat} {ds : List Step} (h : ReadsD w A ds) :
    Calls Try.prog 10 #[.slice A ds.length c] w fun e w' => (∃ b, e = .returned (.bool b) ∧ (b = true → ds.length ≤ 40 ∧ ∀ i (h : i < ds.length), ds[i].l.length ≤ 200)) ∧ w' = w := by
  have H := hid h
  have hl := h.1
  clear h
  go_enter Try.func10, Try.ntmps10
  go_wp2
  go_loopw [3] (fun i wr => ∃ k : Nat, k ≤ ds.length ∧ k ≤ 41 ∧ i = .int .i64 k ∧ Hid (∀ j (h : j < ds.length), j < k → ds[j].l.length ≤ 200) ∧ wr = w) (fun i _ => 41 - (intOf i).toNat)
  case atStart => exact ⟨0, by omega, by omega, rfl, hid (fun j _ hj => absurd hj (Nat.not_lt_zero _)), rfl⟩
  case round =>
    obtain ⟨k, hk, hk41, rfl, HF, rfl⟩ := hrel
    by_cases hlt : k < ds.length
    · have dl : decide (k < ds.length) = true := by simpa using hlt
      by_cases h40 : k ≤ 40
      · have d40 : decide ((k : Int) ≤ 40) = true := by simp; omega
        obtain ⟨ad, rfl, _, _, _, c3, _⟩ := H.out.2 k hlt
        obtain ⟨x, hx⟩ : ∃ x, ds[k] = x := ⟨_, rfl⟩
        have HX := hid hx
        rw [hx] at c3
        have hki : (k : Int) < (ds.length : Int) := by omega
        have hk0 : (0 : Int) ≤ (k : Int) := by omega
        clear hx
        by_cases h2 : 200 < x.l.length
        · have d2 : decide ((200 : Int) < (x.l.length : Int)) = true := by simp; omega
          go_wp2
          go_ret
          exact ⟨⟨false, rfl, fun h => by cases h⟩, rfl⟩
        · have d2 : decide ((200 : Int) < (x.l.length : Int)) = false := by simp; omega
          go_wp2
          go_roundw
          case rel => exact ⟨k + 1, by omega, by omega, by go_num, hid (fun j hj hjk => by
            by_cases hjk2 : j < k
            · exact HF.out j hj hjk2
            · obtain rfl : j = k := by omega
              rw [HX.out]; omega), trivial⟩
          case measure => simp [intOf]; omega
      · have d40 : decide ((k : Int) ≤ 40) = false := by simp; omega
        have dl4 : decide ((ds.length : Int) ≤ 40) = false := by simp; omega
        go_wp2
        go_ret
        exact ⟨⟨_, rfl, fun h => by simp at h⟩, rfl⟩
    · have dl : decide (k < ds.length) = false := by simpa using hlt
      go_wp2
      go_ret
      exact ⟨⟨_, rfl, fun h => ⟨by simp at h; omega, fun j hj => HF.out j hj (by omega)⟩⟩, rfl⟩
end Go.Proofs.Ythieemfcmehdiaa
