/- The plain law of a sum (CRC-32C), on bit vectors: bit steps, their inverse, linearity, four bytes at once. No program in sight. -/
namespace Go.Proofs.YtgkniekggcgdcaaDoor.Crc
abbrev W := BitVec 32
def poly : W := 0x82f63b78#32
/-- one bit -/
def B (n : W) : W := (n >>> 1) ^^^ (if n.getLsbD 0 then poly else 0#32)
theorem xx (p a b : W) : (a ^^^ p) ^^^ (b ^^^ p) = a ^^^ b := by
  apply BitVec.eq_of_getLsbD_eq; intro i _
  simp only [BitVec.getLsbD_xor]
  cases a.getLsbD i <;> cases b.getLsbD i <;> cases p.getLsbD i <;> rfl
theorem B_xor (x y : W) : B (x ^^^ y) = B x ^^^ B y := by
  unfold B
  rw [BitVec.getLsbD_xor, BitVec.ushiftRight_xor_distrib]
  cases x.getLsbD 0 <;> cases y.getLsbD 0
  · simp
  · simp [BitVec.xor_assoc]
  · simp; ac_rfl
  · simp [xx]
def Bk : Nat → W → W
  | 0, n => n
  | k + 1, n => Bk k (B n)
theorem Bk_xor (k : Nat) : ∀ x y : W, Bk k (x ^^^ y) = Bk k x ^^^ Bk k y := by
  induction k with
  | zero => intros; rfl
  | succ k ih => intro x y; simp only [Bk]; rw [B_xor, ih]
theorem Bk_add (j : Nat) : ∀ (k : Nat) (x : W), Bk (j + k) x = Bk k (Bk j x) := by
  induction j with
  | zero => intro k x; simp [Bk]
  | succ j ih => intro k x; rw [Nat.add_right_comm]; simp only [Bk]; exact ih k (B x)
/-- low bits clear: k steps are a shift -/
theorem Bk_clear (k : Nat) : ∀ x : W, (∀ i, i < k → x.getLsbD i = false) → Bk k x = x >>> k := by
  induction k with
  | zero => intro x _; simp [Bk]
  | succ k ih =>
    intro x h
    have h0 : x.getLsbD 0 = false := h 0 (by omega)
    have hB : B x = x >>> 1 := by unfold B; rw [h0]; simp
    simp only [Bk]
    rw [hB, ih]
    · rw [← BitVec.shiftRight_add, Nat.add_comm]
    · intro i hi
      rw [BitVec.getLsbD_ushiftRight]
      exact h (1 + i) (by omega)
theorem Bk_zero (k : Nat) : Bk k 0#32 = 0#32 := by
  rw [Bk_clear k 0#32 (by intros; simp)]; simp
theorem bit15 (i : Nat) : (15#32).getLsbD i = decide (i < 4) := by
  by_cases h : i < 4
  · have : i = 0 ∨ i = 1 ∨ i = 2 ∨ i = 3 := by omega
    rcases this with rfl | rfl | rfl | rfl <;> decide
  · have : Nat.testBit 15 i = false := Nat.testBit_lt_two_pow (Nat.lt_of_lt_of_le (by decide : 15 < 2 ^ 4) (Nat.pow_le_pow_right (by omega) (by omega)))
    rw [BitVec.getLsbD_ofNat, this]; simp; omega
theorem Bk_shl (k : Nat) (x : W) (h : ∀ i, 32 ≤ i + k → x.getLsbD i = false) : Bk k (x <<< k) = x := by
  rw [Bk_clear k _ (by intro i hi; rw [BitVec.getLsbD_shiftLeft]; simp [hi])]
  apply BitVec.eq_of_getLsbD_eq; intro i hi
  rw [BitVec.getLsbD_ushiftRight, BitVec.getLsbD_shiftLeft]
  by_cases hk : k + i < 32
  · simp [hk]
  · simp [hk]; exact h i (by omega)
theorem nibble (n : W) : Bk 4 (n &&& 15#32) ^^^ (n >>> 4) = Bk 4 n := by
  have e : n = (n &&& 15#32) ^^^ (n &&& ~~~15#32) := by
    apply BitVec.eq_of_getLsbD_eq; intro i hi
    simp only [BitVec.getLsbD_xor, BitVec.getLsbD_and, BitVec.getLsbD_not, bit15, hi, decide_true, Bool.true_and]
    cases n.getLsbD i <;> cases decide (i < 4) <;> rfl
  have hc : Bk 4 (n &&& ~~~15#32) = n >>> 4 := by
    rw [Bk_clear 4 _ (by intro i hi; simp only [BitVec.getLsbD_and, BitVec.getLsbD_not, bit15, hi]; simp)]
    apply BitVec.eq_of_getLsbD_eq; intro i hi
    simp only [BitVec.getLsbD_ushiftRight, BitVec.getLsbD_and, BitVec.getLsbD_not, bit15]
    by_cases h : 4 + i < 32
    · simp only [h]; simp
    · rw [BitVec.getLsbD_of_ge n (4 + i) (by omega)]; simp
  conv => rhs; rw [e]
  rw [Bk_xor, hc]
/-- the way back -/
def Bi (n : W) : W := if n.getLsbD 31 then ((n ^^^ poly) <<< 1) ||| 1#32 else n <<< 1
theorem poly31 : poly.getLsbD 31 = true := by decide
theorem bit1 (i : Nat) : (1#32).getLsbD i = decide (i = 0) := by
  cases i with
  | zero => decide
  | succ i => rw [BitVec.getLsbD_ofNat, Nat.testBit_succ]; simp
theorem B_Bi (n : W) : B (Bi n) = n := by
  unfold Bi B
  cases h : n.getLsbD 31
  · have h0 : (n <<< 1).getLsbD 0 = false := by rw [BitVec.getLsbD_shiftLeft]; simp
    simp only [Bool.false_eq_true, if_false, h0, BitVec.xor_zero]
    apply BitVec.eq_of_getLsbD_eq; intro i hi
    rw [BitVec.getLsbD_ushiftRight, BitVec.getLsbD_shiftLeft]
    by_cases hk : 1 + i < 32
    · simp [hk]
    · obtain rfl : i = 31 := by omega
      rw [h]; rfl
  · have h0 : (((n ^^^ poly) <<< 1) ||| 1#32).getLsbD 0 = true := by rw [BitVec.getLsbD_or, bit1]; simp
    simp only [if_true, h0]
    apply BitVec.eq_of_getLsbD_eq; intro i hi
    rw [BitVec.getLsbD_xor, BitVec.getLsbD_ushiftRight, BitVec.getLsbD_or, BitVec.getLsbD_shiftLeft, bit1, BitVec.getLsbD_xor]
    by_cases hk : 1 + i < 32
    · simp only [hk, show ¬ (1 + i < 1) by omega, show ¬ (1 + i = 0) by omega, show 1 + i - 1 = i by omega, decide_true, decide_false, Bool.not_false, Bool.and_true, Bool.true_and, Bool.or_false]
      cases n.getLsbD i <;> cases poly.getLsbD i <;> rfl
    · obtain rfl : i = 31 := by omega
      rw [h, poly31]; rfl
theorem Bi_B (n : W) : Bi (B n) = n := by
  have hx : (B n).getLsbD 31 = n.getLsbD 0 := by
    unfold B
    rw [BitVec.getLsbD_xor, BitVec.getLsbD_ushiftRight, BitVec.getLsbD_of_ge n (1 + 31) (by omega)]
    cases n.getLsbD 0 <;> simp [poly31]
  unfold Bi
  rw [hx]
  unfold B
  cases h : n.getLsbD 0
  · simp only [Bool.false_eq_true, if_false, BitVec.xor_zero]
    apply BitVec.eq_of_getLsbD_eq; intro i hi
    rw [BitVec.getLsbD_shiftLeft, BitVec.getLsbD_ushiftRight]
    cases i with
    | zero => rw [h]; rfl
    | succ i => simp only [hi, show ¬ (i + 1 < 1) by omega, show 1 + (i + 1 - 1) = i + 1 by omega]; simp
  · simp only [if_true]
    apply BitVec.eq_of_getLsbD_eq; intro i hi
    rw [BitVec.getLsbD_or, BitVec.getLsbD_shiftLeft, BitVec.getLsbD_xor, BitVec.getLsbD_xor, BitVec.getLsbD_ushiftRight, bit1]
    cases i with
    | zero => simp [h]
    | succ i =>
      simp only [hi, show ¬ (i + 1 < 1) by omega, show 1 + (i + 1 - 1) = i + 1 by omega, show ¬ (i + 1 = 0) by omega, decide_true, decide_false, Bool.not_false, Bool.and_true, Bool.true_and, Bool.or_false]
      cases n.getLsbD (i + 1) <;> cases poly.getLsbD (i + 1 - 1) <;> rfl
theorem B_inj {x y : W} (h : B x = B y) : x = y := by rw [← Bi_B x, ← Bi_B y, h]
theorem Bk_inj (k : Nat) : ∀ {x y : W}, Bk k x = Bk k y → x = y := by
  induction k with
  | zero => intro x y h; exact h
  | succ k ih => intro x y h; exact B_inj (ih h)
def Bik : Nat → W → W
  | 0, n => n
  | k + 1, n => Bik k (Bi n)
theorem Bk_succ' (k : Nat) (x : W) : Bk (k + 1) x = B (Bk k x) := by rw [Bk_add k 1]; rfl
theorem Bk_Bik (k : Nat) : ∀ x : W, Bk k (Bik k x) = x := by
  induction k with
  | zero => intro x; rfl
  | succ k ih => intro x; rw [Bk_succ']; simp only [Bik]; rw [ih, B_Bi]

/-! bytes -/
abbrev z8 (c : UInt8) : W := BitVec.setWidth 32 c.toBitVec
def stp (s : W) (c : UInt8) : W := Bk 8 (s ^^^ z8 c)
def st (s : W) (l : List UInt8) : W := l.foldl stp s
def ones : W := 0xffffffff#32
/-- the sum of bytes -/
def of (l : List UInt8) : W := ~~~ st ones l
def upd (n : W) (l : List UInt8) : W := ~~~ st (~~~ n) l
theorem st_append (s : W) (a b : List UInt8) : st s (a ++ b) = st (st s a) b := List.foldl_append
theorem upd_zero (l : List UInt8) : upd 0#32 l = of l := rfl
theorem upd_of (a b : List UInt8) : upd (of a) b = of (a ++ b) := by
  unfold upd of; rw [BitVec.not_not, st_append]
theorem z8_xor (a b : UInt8) : z8 (a ^^^ b) = z8 a ^^^ z8 b := by
  show BitVec.setWidth 32 (a.toBitVec ^^^ b.toBitVec) = _
  rw [BitVec.setWidth_xor]
theorem xor4 (a b c d : W) : (a ^^^ b) ^^^ (c ^^^ d) = (a ^^^ c) ^^^ (b ^^^ d) := by ac_rfl
theorem stp_xor (s s' : W) (a b : UInt8) : stp (s ^^^ s') (a ^^^ b) = stp s a ^^^ stp s' b := by
  unfold stp; rw [z8_xor, xor4, Bk_xor]
theorem st_xor : ∀ (a b : List UInt8) (s s' : W), a.length = b.length → st (s ^^^ s') (List.zipWith (· ^^^ ·) a b) = st s a ^^^ st s' b := by
  intro a
  induction a with
  | nil => intro b s s' h; cases b with
    | nil => rfl
    | cons => simp at h
  | cons x a ih => intro b s s' h; cases b with
    | nil => simp at h
    | cons y b =>
      simp only [List.zipWith_cons_cons, st, List.foldl_cons, stp_xor]
      exact ih b _ _ (by simpa using h)
theorem not_xor3 (a b c : W) : ~~~ a ^^^ ~~~ b ^^^ ~~~ c = ~~~ (a ^^^ b ^^^ c) := by
  apply BitVec.eq_of_getLsbD_eq; intro i hi
  simp only [BitVec.getLsbD_xor, BitVec.getLsbD_not, hi, decide_true, Bool.true_and]
  cases a.getLsbD i <;> cases b.getLsbD i <;> cases c.getLsbD i <;> rfl
/-- P2.1: linear up to a constant -/
theorem of_like (a b : List UInt8) (h : a.length = b.length) : of (List.zipWith (· ^^^ ·) a b) = of a ^^^ of b ^^^ of (List.replicate a.length 0) := by
  unfold of
  rw [not_xor3]
  congr 1
  have e : st ones (List.zipWith (· ^^^ ·) (List.zipWith (· ^^^ ·) a b) (List.replicate a.length 0)) = st ones (List.zipWith (· ^^^ ·) a b) := by
    congr 1
    apply List.ext_getElem
    · simp [h]
    · intro i h1 h2; simp
  have e2 := st_xor (List.zipWith (· ^^^ ·) a b) (List.replicate a.length 0) (ones ^^^ ones) ones (by simp [h])
  rw [st_xor a b ones ones h] at e2
  rw [← e2, show ones ^^^ ones ^^^ ones = ones by decide, e]
theorem z8_inj {a b : UInt8} (h : z8 a = z8 b) : a = b := by
  have := congrArg (BitVec.setWidth 8) h
  simp at this
  exact UInt8.toBitVec_inj.1 this
theorem stp_inj {s s' : W} {c : UInt8} (h : stp s c = stp s' c) : s = s' := by
  have := Bk_inj 8 h
  have := congrArg (· ^^^ z8 c) this
  simpa [BitVec.xor_assoc] using this
theorem stp_ne {s : W} {c d : UInt8} (h : stp s c = stp s d) : c = d := by
  have := Bk_inj 8 h
  have := congrArg (s ^^^ ·) this
  exact z8_inj (by simpa [← BitVec.xor_assoc] using this)
theorem st_inj (l : List UInt8) : ∀ {s s' : W}, st s l = st s' l → s = s' := by
  induction l with
  | nil => intro s s' h; exact h
  | cons c l ih => intro s s' h; exact stp_inj (ih h)
/-- P2.3: a byte turned, another sum -/
theorem of_turned (l : List UInt8) (i : Nat) (hi : i < l.length) (c : UInt8) (hc : c ≠ l[i]) : of (l.set i c) ≠ of l := by
  intro h
  have h1 : st ones (l.set i c) = st ones l := by have := congrArg (~~~ ·) h; simpa [of] using this
  have e1 : l.set i c = l.take i ++ c :: l.drop (i + 1) := List.set_eq_take_append_cons_drop .. |>.trans (by rw [if_pos hi])
  have e2 : l = l.take i ++ l[i] :: l.drop (i + 1) := by rw [List.getElem_cons_drop, List.take_append_drop]
  rw [e1] at h1
  conv at h1 => rhs; rw [e2]
  rw [st_append, st_append] at h1
  exact hc (stp_ne (st_inj _ h1))
/-- four bytes, the lowest first -/
def le4 (v : W) : List UInt8 := [⟨v.setWidth 8⟩, ⟨(v >>> 8).setWidth 8⟩, ⟨(v >>> 16).setWidth 8⟩, ⟨(v >>> 24).setWidth 8⟩]
theorem z8_bit (x : W) (i : Nat) : (z8 ⟨x.setWidth 8⟩).getLsbD i = (decide (i < 8) && x.getLsbD i) := by
  show (BitVec.setWidth 32 (BitVec.setWidth 8 x)).getLsbD i = _
  rw [BitVec.getLsbD_setWidth, BitVec.getLsbD_setWidth]
  by_cases h : i < 8
  · simp [h]; omega
  · simp [h]
theorem Bk8_byte (x : W) : Bk 8 x = Bk 8 (z8 ⟨x.setWidth 8⟩) ^^^ (x >>> 8) := by
  have e : x = z8 ⟨x.setWidth 8⟩ ^^^ ((x >>> 8) <<< 8) := by
    apply BitVec.eq_of_getLsbD_eq; intro i hi
    rw [BitVec.getLsbD_xor, z8_bit, BitVec.getLsbD_shiftLeft, BitVec.getLsbD_ushiftRight]
    by_cases h : i < 8
    · simp [h]
    · simp [h, hi, show 8 + (i - 8) = i by omega]
  conv => lhs; rw [e]
  rw [Bk_xor, Bk_shl 8 (x >>> 8) (by intro i hi; rw [BitVec.getLsbD_ushiftRight]; exact BitVec.getLsbD_of_ge _ _ (by omega))]
theorem z8_24 (v : W) : z8 ⟨(v >>> 24).setWidth 8⟩ = v >>> 24 := by
  apply BitVec.eq_of_getLsbD_eq; intro i hi
  rw [z8_bit, BitVec.getLsbD_ushiftRight]
  by_cases h : i < 8
  · simp [h]
  · rw [BitVec.getLsbD_of_ge v (24 + i) (by omega)]; simp
theorem split4 (s v : W) : st s (le4 v) = Bk 32 (s ^^^ v) := by
  have e (s x : W) : Bk 8 (s ^^^ z8 ⟨x.setWidth 8⟩) ^^^ (x >>> 8) = Bk 8 (s ^^^ x) := by
    rw [Bk_xor, Bk_xor 8 s x, Bk8_byte x, BitVec.xor_assoc]
  have e24 (s : W) : Bk 8 (s ^^^ z8 ⟨(v >>> 24).setWidth 8⟩) = Bk 8 (s ^^^ (v >>> 24)) := by rw [z8_24]
  simp only [le4, st, List.foldl_cons, List.foldl_nil, stp]
  rw [e24]
  have s3 : (v >>> 16) >>> 8 = v >>> 24 := by rw [← BitVec.shiftRight_add]
  have s2 : (v >>> 8) >>> 8 = v >>> 16 := by rw [← BitVec.shiftRight_add]
  rw [← s3, e, ← s2, e, e]
  have h1 := Bk_add 8 24 (s ^^^ v)
  have h2 := Bk_add 8 16 (Bk 8 (s ^^^ v))
  have h3 := Bk_add 8 8 (Bk 8 (Bk 8 (s ^^^ v)))
  rw [← h3, ← h2, ← h1]
/-- P2.1: its own sum behind it -/
theorem of_residue (l : List UInt8) : of (l ++ le4 (of l)) = of [0, 0, 0, 0] := by
  have e0 : ([0, 0, 0, 0] : List UInt8) = le4 0#32 := by decide
  have e1 : ∀ s : W, s ^^^ ~~~ s = ones ^^^ 0#32 := by intro s; apply BitVec.eq_of_getLsbD_eq; intro i hi; rw [BitVec.getLsbD_xor, BitVec.getLsbD_not, show ones ^^^ 0#32 = BitVec.allOnes 32 by decide, BitVec.getLsbD_allOnes]; simp only [hi]; cases s.getLsbD i <;> rfl
  unfold of
  rw [st_append, split4, e1, e0, split4]
/-- P2.2 -/
def forge (n : W) : List UInt8 := le4 (Bik 32 ones ^^^ ~~~ n)
theorem of_forged (l : List UInt8) : of (l ++ forge (of l)) = 0#32 := by
  unfold of forge
  rw [st_append, split4, BitVec.not_not]
  have : st ones l ^^^ (Bik 32 ones ^^^ st ones l) = Bik 32 ones := by
    rw [BitVec.xor_comm (Bik 32 ones), ← BitVec.xor_assoc]; simp
  rw [this, Bk_Bik]; decide
end Go.Proofs.YtgkniekggcgdcaaDoor.Crc
