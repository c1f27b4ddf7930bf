/- The plain law of a ring: what its slice holds when the things of a row were put, one by one. No program in sight. -/
namespace Go.Proofs.Ytlekhibddmbjnaa.Plain

/-- one put: what the slice holds behind it ('many': how many were put ahead of it) -/
def put {α : Type} (room many : Nat) (l : List α) (x : α) : List α :=
  if room = 0 then l else if l.length < room then l ++ [x] else l.set (many % room) x
/-- what it drives out -/
def out {α : Type} (room many : Nat) (l : List α) (x : α) : Option α :=
  if room = 0 then some x else if l.length < room then none else l[many % room]?
/-- all that was put: the slice -/
def phys {α : Type} (room : Nat) : List α → Nat → List α → List α
  | [], _, l => l
  | x :: xs, many, l => phys room xs (many + 1) (put room many l x)
def ring {α : Type} (room : Nat) (xs : List α) : List α := phys room xs 0 []

theorem phys_append {α : Type} (room : Nat) (a b : List α) : ∀ (many : Nat) (l : List α), phys room (a ++ b) many l = phys room b (many + a.length) (phys room a many l) := by
  induction a with
  | nil => intro many l; rfl
  | cons x a ih => intro many l; simp only [List.cons_append, phys, ih, List.length_cons]; congr 1; omega
theorem ring_snoc {α : Type} (room : Nat) (xs : List α) (x : α) : ring room (xs ++ [x]) = put room xs.length (ring room xs) x := by
  unfold ring; rw [phys_append]; simp [phys]
theorem ring_nil {α : Type} (room : Nat) : ring room ([] : List α) = [] := rfl

/-- by induction from behind -/
theorem snoc_ind {α : Type} {P : List α → Prop} (h0 : P []) (h1 : ∀ xs x, P xs → P (xs ++ [x])) (l : List α) : P l := by
  have : ∀ n (l : List α), l.length = n → P l := by
    intro n
    induction n with
    | zero => intro l h; obtain rfl := List.eq_nil_of_length_eq_zero h; exact h0
    | succ n ih =>
      intro l h
      have hne : l ≠ [] := by intro e; subst e; simp at h
      rw [← List.dropLast_concat_getLast hne]
      exact h1 _ _ (ih _ (by simp [h]))
  exact this _ l rfl

theorem ring_length {α : Type} (room : Nat) (xs : List α) : (ring room xs).length = min xs.length room := by
  refine snoc_ind (P := fun xs => (ring room xs).length = min xs.length room) ?_ ?_ xs
  · simp [ring_nil]
  · intro xs x ih
    rw [ring_snoc]
    unfold put
    split
    · rename_i h; subst h; simp at ih ⊢; exact ih
    · split
      · rename_i h; rw [ih] at h; simp only [List.length_append, List.length_cons, List.length_nil, ih]; omega
      · rename_i h0 h; rw [ih] at h; simp only [List.length_set, List.length_append, List.length_cons, List.length_nil, ih]; omega

/-- where the thing of number j lies -/
theorem ring_at {α : Type} (room : Nat) (xs : List α) : ∀ j, j < xs.length → xs.length ≤ j + room → (ring room xs)[j % room]? = xs[j]? := by
  refine snoc_ind (P := fun xs => ∀ j, j < xs.length → xs.length ≤ j + room → (ring room xs)[j % room]? = xs[j]?) ?_ ?_ xs
  · intro j hj; simp at hj
  · intro xs x ih j hj hr
    simp only [List.length_append, List.length_cons, List.length_nil] at hj hr
    rw [ring_snoc]
    have hl := ring_length room xs
    unfold put
    have h0 : room ≠ 0 := by omega
    rw [if_neg h0]
    by_cases h : (ring room xs).length < room
    · rw [if_pos h]
      have hlt : xs.length < room := by omega
      have hjr : j < room := by omega
      rw [Nat.mod_eq_of_lt hjr]
      by_cases hjx : j < xs.length
      · have := ih j hjx (by omega)
        rw [Nat.mod_eq_of_lt hjr] at this
        rw [List.getElem?_append_left (by omega), List.getElem?_append_left hjx, this]
      · obtain rfl : j = xs.length := by omega
        have hl' : (ring room xs).length = xs.length := by omega
        rw [← hl', List.getElem?_append_right (by omega), hl', List.getElem?_append_right (by omega)]
    · rw [if_neg h]
      have hge : room ≤ xs.length := by omega
      have hlr : (ring room xs).length = room := by omega
      by_cases hjx : j < xs.length
      · have hne : xs.length % room ≠ j % room := by
          intro e
          have h1 := Nat.div_add_mod xs.length room
          have h2 := Nat.div_add_mod j room
          have h3 : xs.length - j = room * (xs.length / room - j / room) := by rw [Nat.mul_sub]; omega
          have h4 : xs.length - j < room := by omega
          have h5 : 0 < xs.length - j := by omega
          cases hq : xs.length / room - j / room with
          | zero => rw [hq] at h3; simp at h3; omega
          | succ q => rw [hq, Nat.mul_succ] at h3; omega
        rw [List.getElem?_set_ne hne, List.getElem?_append_left hjx]
        exact ih j hjx (by omega)
      · obtain rfl : j = xs.length := by omega
        rw [List.getElem?_set_self (by rw [hlr]; exact Nat.mod_lt _ (by omega)), List.getElem?_append_right (by omega)]
        simp

/-- the thing of an age -/
theorem ring_age {α : Type} (room : Nat) (xs : List α) (age : Nat) (h : age < (ring room xs).length) : (ring room xs)[(xs.length - 1 - age) % room]? = xs[xs.length - 1 - age]? := by
  rw [ring_length] at h
  exact ring_at room xs _ (by omega) (by omega)

/-- what a put drives out, by the row -/
theorem out_row {α : Type} (room : Nat) (xs : List α) (x : α) : out room xs.length (ring room xs) x = if room = 0 then some x else if xs.length < room then none else xs[xs.length - room]? := by
  unfold out
  rw [ring_length]
  by_cases h0 : room = 0
  · rw [if_pos h0, if_pos h0]
  · rw [if_neg h0, if_neg h0]
    by_cases h : xs.length < room
    · rw [if_pos (by omega), if_pos h]
    · rw [if_neg (by omega), if_neg h]
      have := ring_at room xs (xs.length - room) (by omega) (by omega)
      rw [← this]
      congr 1
      rw [show xs.length = (xs.length - room) + room by omega, Nat.add_mod_right]
      congr 1
      omega
theorem put_zero {α : Type} (many : Nat) (l : List α) (x : α) : put 0 many l x = l := by simp [put]
theorem ring_zero {α : Type} (xs : List α) : ring 0 xs = [] := by
  have := ring_length 0 xs
  simp at this
  exact this
end Go.Proofs.Ytlekhibddmbjnaa.Plain
