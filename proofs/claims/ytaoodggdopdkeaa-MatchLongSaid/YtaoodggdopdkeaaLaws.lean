/- What is parsed is expanded to what it was; tokens and literals joined: lists alone. -/
import Derived.Laws.IdiomStrings
import Derived.Laws.BytesArg
import Derived.Test.YtaoodggdopdkeaaAwake
namespace Go.Proofs.Ytaoodggdopdkeaa
open Go.RowKit

theorem conv_bytes {w : World} {A : Option Addr} {c : Nat} {l : List UInt8} (h : Reads w A (bytesV l)) : (convert 22 9 (.slice A l.length c)).run Try.prog w = .ok (.string ⟨l.toArray⟩) w := by
  cases A with
  | none =>
    have hl : l = [] := by
      cases l with
      | nil => rfl
      | cons y l => obtain ⟨ad, e, _⟩ := h.2 0 (by simp [bytesV]); cases e
    subst hl
    exact run_convert_bytes_nil w 22 5 Try.underlying22 Try.underlying5 _ _ 9 Try.underlying9
  | some ad =>
    refine run_convert_bytes_back w 22 9 5 ad c l Try.underlying22 Try.underlying5 Try.underlying9 (fun j hj => ?_)
    obtain ⟨_, e, hc⟩ := h.2 j (by simpa [bytesV] using hj)
    cases e
    simpa [bytesV] using hc

theorem tok_right (b : List UInt8) (win q : Nat) (hq : q < b.length) (hwin : win ≤ 32768) :
    rightB (ofTk (Plain.tokAt b win q)) = true ∧ (Plain.tokAt b win q).back ≤ q ∧ (Plain.tokAt b win q).back ≤ win ∧ q + max (Plain.tokAt b win q).len 1 ≤ b.length ∧ (Plain.tokAt b win q).len ≤ 258 := by
  have h1 := Plain.bestTo_le b q (min win q) (by omega)
  unfold Plain.tokAt ofTk rightB
  simp only
  rcases Plain.bestTo_hit b q (min win q) with e | ⟨g1, g2, g3, _⟩
  · rw [e]
    simp
    omega
  · rw [if_neg (by omega), if_neg (by omega)]
    refine ⟨by simp; omega, by omega, by omega, by omega, by omega⟩
theorem copyN_take (b : List UInt8) (q back : Nat) (hb : back ≤ q) (h1 : 1 ≤ back) : ∀ n, q + n ≤ b.length → (∀ i, i < n → b[q - back + i]? = b[q + i]?) → copyN (b.take q) back n = b.take (q + n)
  | 0, _, _ => rfl
  | n + 1, hn, hi => by
    have ih := copyN_take b q back hb h1 n (by omega) (fun i hi' => hi i (by omega))
    unfold copyN
    rw [ih]
    have hl : (b.take (q + n)).length = q + n := by simp; omega
    rw [hl]
    have e := hi n (by omega)
    have e2 : (b.take (q + n)).getD (q + n - back) 0 = b[q + n] := by
      rw [List.getD_eq_getElem?_getD, List.getElem?_take_of_lt (by omega), show q + n - back = q - back + n by omega, e, List.getElem?_eq_getElem (by omega)]
      rfl
    rw [e2, show q + (n + 1) = q + n + 1 by omega, take_snoc (by omega)]
theorem grow_tok (b : List UInt8) (win q : Nat) (hq : q < b.length) : grow (b.take q) (ofTk (Plain.tokAt b win q)) = b.take (q + max (Plain.tokAt b win q).len 1) := by
  have h1 := Plain.bestTo_le b q (min win q) (by omega)
  unfold grow ofTk Plain.tokAt
  simp only
  rcases Plain.bestTo_hit b q (min win q) with e | ⟨g1, g2, g3, g4⟩
  · rw [e]
    simp only [if_true]
    rw [if_pos (by rfl), show q + max 0 1 = q + 1 by omega, take_snoc hq]
    simp [hq]
  · rw [if_neg (by omega)]
    have hs := (Plain.alike_spec b (q - (Plain.bestTo b q (min win q)).2) q (by omega)).2.2.1
    rw [← g4] at hs
    simp only [Int.toNat_natCast]
    rw [copyN_take b q _ (by omega) g2 _ h1.2 hs]
    congr 1
    omega
theorem expand_toks (b : List UInt8) (win : Nat) (hn : b.length ≤ 65536) (hwin : win ≤ 32768) : ∀ fuel q, q ≤ b.length → b.length - q ≤ fuel →
    expand (b.take q) ((Plain.toksF b win fuel q).map ofTk) = (0, b) ∧ sizeT ((Plain.toksF b win fuel q).map ofTk) = (b.length : Int) - q ∧ ∀ t ∈ (Plain.toksF b win fuel q).map ofTk, rightB t = true ∧ t.back ≤ win
  | 0, q, hq, hf => by
    obtain rfl : q = b.length := by omega
    simp [Plain.toksF, expand, sizeT]
  | fuel + 1, q, hq, hf => by
    by_cases hlt : q < b.length
    · obtain ⟨r1, r2, r3, r4, r5⟩ := tok_right b win q hlt hwin
      have hg := grow_tok b win q hlt
      have e : Plain.toksF b win (fuel + 1) q = Plain.tokAt b win q :: Plain.toksF b win fuel (q + max (Plain.tokAt b win q).len 1) := by
        show (if q < b.length then _ else _) = _
        rw [if_pos hlt]
      obtain ⟨i1, i2, i3⟩ := expand_toks b win hn hwin fuel (q + max (Plain.tokAt b win q).len 1) r4 (by omega)
      rw [e, List.map_cons]
      have hl : (b.take q).length = q := by simp; omega
      refine ⟨?_, ?_, ?_⟩
      · rw [expand_0, hg]
        · exact i1
        · rw [r1, hl]
          show ¬ (true = false ∨ (q : Int) < ((Plain.tokAt b win q).back : Int))
          simp
          omega
        · rw [hl]
          show ¬ 65536 < (q : Int) + (if (((Plain.tokAt b win q).len : Nat) : Int) < 1 then 1 else (((Plain.tokAt b win q).len : Nat) : Int))
          split <;> omega
      · unfold sizeT
        rw [i2]
        unfold oneT
        rw [if_pos r1]
        show (if (((Plain.tokAt b win q).len : Nat) : Int) < 1 then (1 : Int) else (((Plain.tokAt b win q).len : Nat) : Int)) + _ = _
        split <;> omega
      · intro t ht
        rcases List.mem_cons.1 ht with rfl | ht
        · exact ⟨r1, by show ((Plain.tokAt b win q).back : Int) ≤ win; omega⟩
        · exact i3 t ht
    · have e : Plain.toksF b win (fuel + 1) q = [] := by
        show (if q < b.length then _ else _) = _
        rw [if_neg hlt]
      obtain rfl : q = b.length := by omega
      rw [e]
      simp [expand, sizeT]
theorem back_plain (b : List UInt8) (win : Nat) (hn : b.length ≤ 65536) (hwin : win ≤ 32768) :
    expand [] (allToks b win) = (0, b) ∧ sizeT (allToks b win) = b.length ∧ ∀ t ∈ allToks b win, rightB t = true ∧ t.back ≤ win := by
  have := expand_toks b win hn hwin b.length 0 (by omega) (by omega)
  simpa [allToks, Plain.toks] using this
end Go.Proofs.Ytaoodggdopdkeaa
