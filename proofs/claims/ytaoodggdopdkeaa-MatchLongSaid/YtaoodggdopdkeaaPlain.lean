/- The plain law of parsing and expanding: lists alone, no program in sight. -/
namespace Go.Proofs.Ytaoodggdopdkeaa.Plain

/-- how many bytes two places have alike, n of them known, at most f more -/
def alikeGo (b : List UInt8) (p q : Nat) : Nat → Nat → Nat
  | 0, n => n
  | f + 1, n => if q + n < b.length ∧ b[p + n]? = b[q + n]? then alikeGo b p q f (n + 1) else n
def alike (b : List UInt8) (p q : Nat) : Nat := alikeGo b p q 258 0
theorem alikeGo_spec (b : List UInt8) (p q : Nat) : ∀ f n, q + n ≤ b.length → (∀ i, i < n → b[p + i]? = b[q + i]?) →
    n ≤ alikeGo b p q f n ∧ alikeGo b p q f n ≤ n + f ∧ q + alikeGo b p q f n ≤ b.length ∧ (∀ i, i < alikeGo b p q f n → b[p + i]? = b[q + i]?) ∧
      (alikeGo b p q f n = n + f ∨ q + alikeGo b p q f n = b.length ∨ b[p + alikeGo b p q f n]? ≠ b[q + alikeGo b p q f n]?) := by
  intro f
  induction f with
  | zero => intro n h1 h2; exact ⟨Nat.le_refl _, Nat.le_refl _, h1, h2, .inl rfl⟩
  | succ f ih =>
    intro n h1 h2
    unfold alikeGo
    split
    · rename_i hc
      obtain ⟨a, b', c, d, e⟩ := ih (n + 1) (by omega) (fun i hi => by
        by_cases h : i = n
        · subst h; exact hc.2
        · exact h2 i (by omega))
      exact ⟨by omega, by omega, c, d, e.elim (fun e => .inl (by omega)) .inr⟩
    · rename_i hc
      refine ⟨Nat.le_refl _, by omega, h1, h2, ?_⟩
      by_cases h : q + n = b.length
      · exact .inr (.inl h)
      · exact .inr (.inr fun e => hc ⟨by omega, e⟩)
theorem alike_spec (b : List UInt8) (p q : Nat) (h : q ≤ b.length) : alike b p q ≤ 258 ∧ q + alike b p q ≤ b.length ∧ (∀ i, i < alike b p q → b[p + i]? = b[q + i]?) ∧
    (alike b p q = 258 ∨ q + alike b p q = b.length ∨ b[p + alike b p q]? ≠ b[q + alike b p q]?) := by
  obtain ⟨_, b', c, d, e⟩ := alikeGo_spec b p q 258 0 (by omega) (fun i hi => absurd hi (Nat.not_lt_zero _))
  exact ⟨by unfold alike; omega, c, d, e.elim (fun e => .inl (by unfold alike; omega)) .inr⟩

/-- three bytes -/
def key (b : List UInt8) (p : Nat) : List UInt8 := (b.drop p).take 3
def Same3 (b : List UInt8) (p q : Nat) : Prop := q + 3 ≤ b.length ∧ key b p = key b q
theorem key_at {b : List UInt8} {p i : Nat} (hi : i < 3) : (key b p)[i]? = b[p + i]? := by
  unfold key
  rw [List.getElem?_take_of_lt hi, List.getElem?_drop]
theorem same3_iff {b : List UInt8} {p q : Nat} (hq : q ≤ b.length) : Same3 b p q ↔ 2 < alike b p q := by
  obtain ⟨h1, h2, h3, h4⟩ := alike_spec b p q hq
  constructor
  · rintro ⟨hl, hk⟩
    have e : ∀ i, i < 3 → b[p + i]? = b[q + i]? := fun i hi => by rw [← key_at hi, ← key_at hi, hk]
    rcases h4 with h4 | h4 | h4
    · omega
    · omega
    · refine Nat.lt_of_not_le fun hle => h4 (e _ (by omega))
  · intro h
    refine ⟨by omega, ?_⟩
    apply List.ext_getElem?
    intro i
    by_cases hi : i < 3
    · rw [key_at hi, key_at hi]; exact h3 i (by omega)
    · unfold key
      rw [List.getElem?_take_eq_none (by omega), List.getElem?_take_eq_none (by omega)]

/-- one more place looked at: (length, back) -/
def step (b : List UInt8) (q : Nat) (t : Nat × Nat) (back : Nat) : Nat × Nat := if 2 < alike b (q - back) q ∧ t.1 < alike b (q - back) q then (alike b (q - back) q, back) else t
def bestTo (b : List UInt8) (q : Nat) : Nat → Nat × Nat
  | 0 => (0, 0)
  | m + 1 => step b q (bestTo b q m) (m + 1)
/-- what a found match is -/
def IsHit (b : List UInt8) (q m : Nat) (t : Nat × Nat) : Prop := t = (0, 0) ∨ (3 ≤ t.1 ∧ 1 ≤ t.2 ∧ t.2 ≤ m ∧ t.1 = alike b (q - t.2) q)
theorem bestTo_hit (b : List UInt8) (q : Nat) : ∀ m, IsHit b q m (bestTo b q m)
  | 0 => .inl rfl
  | m + 1 => by
    have ih := bestTo_hit b q m
    unfold bestTo step
    split
    · rename_i h; exact .inr ⟨h.1, by show 1 ≤ m + 1; omega, by show m + 1 ≤ m + 1; omega, rfl⟩
    · rcases ih with h | h
      · exact .inl h
      · exact .inr ⟨h.1, h.2.1, by omega, h.2.2.2⟩
theorem bestTo_le (b : List UInt8) (q m : Nat) (hq : q ≤ b.length) : (bestTo b q m).1 ≤ 258 ∧ q + (bestTo b q m).1 ≤ b.length := by
  rcases bestTo_hit b q m with h | ⟨_, _, _, h⟩
  · rw [h]; exact ⟨by decide, hq⟩
  · obtain ⟨h1, h2, _, _⟩ := alike_spec b (q - (bestTo b q m).2) q hq
    rw [← h] at h1 h2
    exact ⟨h1, h2⟩
/-- places between that have not the same three bytes turn nothing -/
theorem bestTo_skip (b : List UInt8) (q m : Nat) (hq : q ≤ b.length) : ∀ d, m + d ≤ q → (∀ i, m < i → i ≤ m + d → ¬ Same3 b (q - i) q) → bestTo b q (m + d) = bestTo b q m
  | 0, _, _ => rfl
  | d + 1, h, hn => by
    have ih := bestTo_skip b q m hq d (by omega) (fun i h1 h2 => hn i h1 (by omega))
    show step b q (bestTo b q (m + d)) (m + d + 1) = _
    unfold step
    rw [if_neg, ih]
    rintro ⟨h1, _⟩
    exact hn (m + d + 1) (by omega) (by omega) ((same3_iff hq).2 h1)
/-- none is longer than 258 -/
theorem bestTo_full (b : List UInt8) (q m : Nat) (hq : q ≤ b.length) (h : (bestTo b q m).1 = 258) : ∀ d, bestTo b q (m + d) = bestTo b q m
  | 0 => rfl
  | d + 1 => by
    have ih := bestTo_full b q m hq h d
    show step b q (bestTo b q (m + d)) (m + d + 1) = _
    unfold step
    rw [if_neg, ih]
    rintro ⟨_, h2⟩
    rw [ih, h] at h2
    have := (alike_spec b (q - (m + d + 1)) q hq).1
    omega

/-- the nearest place below q of those below m with q's three bytes -/
def lastOf (b : List UInt8) (k : List UInt8) : Nat → Option Nat
  | 0 => none
  | m + 1 => if m + 3 ≤ b.length ∧ key b m = k then some m else lastOf b k m
theorem lastOf_some {b k : List UInt8} : ∀ {m p : Nat}, lastOf b k m = some p → p < m ∧ p + 3 ≤ b.length ∧ key b p = k ∧ ∀ i, p < i → i < m → i + 3 ≤ b.length → key b i ≠ k
  | 0, p, h => by cases h
  | m + 1, p, h => by
    unfold lastOf at h
    split at h
    · rename_i hc; cases h; exact ⟨by omega, hc.1, hc.2, fun i h1 h2 => by omega⟩
    · rename_i hc
      obtain ⟨h1, h2, h3, h4⟩ := lastOf_some h
      exact ⟨by omega, h2, h3, fun i hi hm hl hk => by
        by_cases e : i = m
        · subst e; exact hc ⟨hl, hk⟩
        · exact h4 i hi (by omega) hl hk⟩
theorem lastOf_none {b k : List UInt8} : ∀ {m : Nat}, lastOf b k m = none → ∀ i, i < m → i + 3 ≤ b.length → key b i ≠ k
  | 0, _, i, hi, _ => by omega
  | m + 1, h, i, hi, hl => by
    unfold lastOf at h
    split at h
    · cases h
    · rename_i hc
      intro hk
      by_cases e : i = m
      · subst e; exact hc ⟨hl, hk⟩
      · exact lastOf_none h i (by omega) hl hk
/-- the place ahead that begins alike, or -1 -/
def prevI (b : List UInt8) (q : Nat) : Int := if q + 3 ≤ b.length then (match lastOf b (key b q) q with | some p => p | none => -1) else -1
theorem prevI_spec (b : List UInt8) (q : Nat) : -1 ≤ prevI b q ∧ prevI b q < q ∧ (∀ p : Nat, prevI b q = p → Same3 b p q) ∧ ∀ i : Nat, prevI b q < i → i < q → ¬ Same3 b i q := by
  unfold prevI
  split
  · rename_i hq
    split
    · rename_i p hp
      obtain ⟨h1, h2, h3, h4⟩ := lastOf_some hp
      refine ⟨by omega, by omega, fun p' e => ?_, fun i hi hlt hs => h4 i (by omega) hlt (by omega) hs.2⟩
      obtain rfl : p = p' := by omega
      exact ⟨hq, h3⟩
    · rename_i hp
      exact ⟨by omega, by omega, fun p e => by omega, fun i _ hlt hs => lastOf_none hp i hlt (by omega) hs.2⟩
  · rename_i hq
    exact ⟨by omega, by omega, fun p e => by omega, fun i _ _ hs => hq hs.1⟩

/-- a token: (literal, length, back) -/
structure Tk where
  lit : UInt8
  len : Nat
  back : Nat
deriving DecidableEq
def tokAt (b : List UInt8) (win q : Nat) : Tk :=
  ⟨if (bestTo b q (min win q)).1 = 0 then b.getD q 0 else 0, (bestTo b q (min win q)).1, (bestTo b q (min win q)).2⟩
def toksF (b : List UInt8) (win : Nat) : Nat → Nat → List Tk
  | 0, _ => []
  | f + 1, q => if q < b.length then tokAt b win q :: toksF b win f (q + max (tokAt b win q).len 1) else []
def toks (b : List UInt8) (win : Nat) : List Tk := toksF b win b.length 0

/-! the chain of places that begin alike, gone through -/
/-- out is what was found among the backs below q - p; p: the place to look at next, or -1 -/
def Chain (b : List UInt8) (win q : Nat) (t : Nat × Nat) (p : Int) : Prop :=
  -1 ≤ p ∧ p < q ∧ (∀ p' : Nat, p = p' → Same3 b p' q) ∧ t = bestTo b q (min win (q - 1 - p).toNat)
theorem chain_start (b : List UInt8) (win q : Nat) (hq : q ≤ b.length) : Chain b win q (0, 0) (prevI b q) := by
  obtain ⟨h1, h2, h3, h4⟩ := prevI_spec b q
  refine ⟨h1, h2, h3, ?_⟩
  have := bestTo_skip b q 0 hq (min win (q - 1 - prevI b q).toNat) (by omega) (fun i hi hle => by
    have := h4 (q - i) (by omega) (by omega)
    exact this)
  rw [Nat.zero_add] at this
  rw [this]
  rfl
theorem chain_end {b : List UInt8} {win q : Nat} {t : Nat × Nat} {p : Int} (h : Chain b win q t p) (hp : p < 0 ∨ (win : Int) < q - p) : t = bestTo b q (min win q) := by
  obtain ⟨h1, h2, _, rfl⟩ := h
  congr 1
  rcases hp with hp | hp <;> omega
theorem chain_step {b : List UInt8} {win q : Nat} {t : Nat × Nat} {p : Nat} (hq : q ≤ b.length) (h : Chain b win q t p) (hw : q - p ≤ win) :
    (if t.1 < alike b p q then (alike b p q, q - p) else t) = bestTo b q (q - p) ∧ Chain b win q (if t.1 < alike b p q then (alike b p q, q - p) else t) (prevI b p) := by
  obtain ⟨h1, h2, h3, rfl⟩ := h
  have hs := h3 p rfl
  have h3' := (same3_iff hq).1 hs
  have hs1 := hs.1
  have e1 : min win ((q : Int) - 1 - p).toNat = q - p - 1 := by omega
  rw [e1]
  have e2 : (if (bestTo b q (q - p - 1)).1 < alike b p q then (alike b p q, q - p) else bestTo b q (q - p - 1)) = bestTo b q (q - p) := by
    have e3 : q - p = (q - p - 1) + 1 := by omega
    conv => rhs; rw [e3]
    show _ = step b q (bestTo b q (q - p - 1)) (q - p - 1 + 1)
    unfold step
    rw [← e3, show q - (q - p) = p by omega]
    by_cases hl : (bestTo b q (q - p - 1)).1 < alike b p q
    · rw [if_pos hl, if_pos ⟨h3', hl⟩]
    · rw [if_neg hl, if_neg (fun h => hl h.2)]
  rw [e2]
  obtain ⟨k1, k2, k3, k4⟩ := prevI_spec b p
  refine ⟨rfl, k1, by omega, fun p' e => ?_, ?_⟩
  · obtain ⟨_, k5⟩ := k3 p' e
    exact ⟨hs.1, k5.trans hs.2⟩
  · have := bestTo_skip b q (q - p) hq (min win ((q : Int) - 1 - prevI b p).toNat - (q - p)) (by omega) (fun i hi hle hsi => by
      refine k4 (q - i) (by omega) (by omega) ⟨by omega, hsi.2.trans hs.2.symm⟩)
    rw [← this]
    congr 1
    omega
theorem chain_full {b : List UInt8} {win q p : Nat} (hq : q ≤ b.length) (hp : p < q) (hw : q - p ≤ win) (h : (bestTo b q (q - p)).1 = 258) : bestTo b q (q - p) = bestTo b q (min win q) := by
  have := bestTo_full b q (q - p) hq h (min win q - (q - p))
  rw [← this]
  congr 1
  omega
end Go.Proofs.Ytaoodggdopdkeaa.Plain
