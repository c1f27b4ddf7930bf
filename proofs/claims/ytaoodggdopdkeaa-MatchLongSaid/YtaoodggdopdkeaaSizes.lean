/- The reference's Right; Size. -/
import Derived.Test.YtaoodggdopdkeaaBase
namespace Go.Proofs.Ytaoodggdopdkeaa
open Go.RowKit
set_option maxRecDepth 100000 in
theorem right_ref (t : Tok) (w : World) : Calls Try.prog 16 #[t.agg] w fun e w' => e = .returned (.bool (rightB t)) ∧ Below w.heap.size w w' := by
  obtain ⟨c, n, k⟩ := t
  unfold Tok.agg
  obtain ⟨x, hx⟩ : ∃ x : Int, (c.toNat : Int) = x := ⟨_, rfl⟩
  have hc := u8_zero c
  rw [hx] at hc
  simp only [hx]
  obtain ⟨v, hv⟩ : ∃ v, rightB ⟨c, n, k⟩ = v := ⟨_, rfl⟩
  have HV := hid hv
  rw [hv]
  have HC := hid hc
  clear hv hx hc
  go_enter Try.func16, Try.ntmps16
  go_wp2
  all_goals
    go_ret
    refine ⟨ret_bool ?_, by go_grown⟩
    have hc := HC.out
    rw [← HV.out, Bool.eq_iff_iff]
    simp [rightB, ← hc] at *
    try (first | omega | (split <;> omega))

def oneT (t : Tok) : Int := if rightB t = true then (if t.len < 1 then 1 else t.len) else 0
def sizeT : List Tok → Int
  | [] => 0
  | t :: l => oneT t + sizeT l
theorem oneT_bd (t : Tok) : 0 ≤ oneT t ∧ oneT t ≤ 258 := by
  unfold oneT
  split
  · rename_i h
    unfold rightB at h
    split at h
    · omega
    · simp at h; omega
  · omega
theorem sizeT_bd : ∀ l : List Tok, 0 ≤ sizeT l ∧ sizeT l ≤ 258 * (l.length : Int)
  | [] => by simp [sizeT]
  | t :: l => by have := oneT_bd t; have := sizeT_bd l; simp only [sizeT, List.length_cons]; omega
theorem sizeT_append (a b : List Tok) : sizeT (a ++ b) = sizeT a + sizeT b := by
  induction a with
  | nil => simp [sizeT]
  | cons t a ih => simp only [List.cons_append, sizeT, ih]; omega
theorem take_snoc {α : Type} {l : List α} {k : Nat} (h : k < l.length) : l.take (k + 1) = l.take k ++ [l[k]] := List.take_succ_eq_append_getElem h
theorem sizeT_snoc {l : List Tok} {k : Nat} (h : k < l.length) : sizeT (l.take (k + 1)) = sizeT (l.take k) + oneT l[k] := by
  rw [take_snoc h, sizeT_append]; simp [sizeT]
set_option maxHeartbeats 400000 in
set_option maxRecDepth 100000 in
theorem size_any (A : Option Addr) (c : Nat) (l : List Tok) (w : World) (hl : ReadsT w A l) (hn : l.length ≤ 1000000) :
    Calls Try.prog 17 #[.slice A l.length c] w fun e w' => e = .returned (.int .i64 (sizeT l)) ∧ Below w.heap.size w w' := by
  have HL := hid hl
  clear hl
  go_enter Try.func17, Try.ntmps17
  go_wp2
  go_loopw [3, 8] (fun n i wr => ∃ k : Nat, k ≤ l.length ∧ i = .int .i64 k ∧ n = .int .i64 (sizeT (l.take k)) ∧ Hid (Below w.heap.size w wr)) (fun _ i _ => l.length - (intOf i).toNat)
  case atStart => exact ⟨0, Nat.zero_le _, rfl, rfl, hid (Below.refl _ _)⟩
  case round =>
    obtain ⟨k, hk, rfl, rfl, HB⟩ := hrel
    by_cases hlt : k < l.length
    · obtain ⟨ad, rfl, c0, c1, c2, _⟩ := (HL.out.below HB.out).2 k hlt
      have hs := sizeT_snoc hlt
      have ho := oneT_bd l[k]
      have hb := sizeT_bd (l.take k)
      have hb2 : (l.take k).length ≤ 1000000 := by simp; omega
      obtain ⟨t, ht⟩ : ∃ t, l[k] = t := ⟨_, rfl⟩
      rw [ht] at c0 c1 c2 hs ho
      have HS := hid hs
      clear ht hs
      go_wp2_with fail
      refine (right_any t _).mono ?_
      rintro e w1 ⟨rfl, b1⟩
      have n1 := cell_below b1 ((cell_new wr #[.int .u8 t.lit.toNat, .int .i64 t.len, .int .i64 t.back] 33 (0, 0) 1).trans rfl)
      have B1 := hid (below_tr HB.out HB.out.size (below_trans (below_new _ _) b1))
      clear b1
      by_cases hr : rightB t = true
      · rw [hr]
        have e1 : oneT t = if t.len < 1 then 1 else t.len := by unfold oneT; rw [if_pos hr]
        have ht : t.len ≤ 258 := by omega
        have E1 := hid e1
        clear hr e1
        go_wp2

        go_roundw
        case rel => exact ⟨k + 1, by omega, by go_num, by rw [HS.out, E1.out], B1⟩
        case measure => simp [intOf]; omega
      · have hr2 : rightB t = false := by simpa using hr
        rw [hr2]
        have e1 : oneT t = 0 := by unfold oneT; rw [if_neg hr]
        have E1 := hid e1
        clear hr hr2 e1
        go_wp2
        go_roundw
        case rel => exact ⟨k + 1, by omega, by go_num, by rw [HS.out, E1.out, Int.add_zero], B1⟩
        case measure => simp [intOf]; omega
    · have hk2 : l.take k = l := List.take_of_length_le (by omega)
      rw [hk2]
      clear hk2
      go_wp2
      go_ret
      exact ⟨rfl, HB.out⟩
/-- tokens as the cells of a row -/
def flatT (l : List Tok) : List Value := l.flatMap tokV
theorem flatT_length (l : List Tok) : (flatT l).length = l.length * 3 := by
  induction l with
  | nil => rfl
  | cons t l ih => simp only [flatT, List.flatMap_cons, List.length_append, List.length_cons] at *; simp only [tokV, List.length_cons, List.length_nil]; omega
theorem info33 : (Try.prog.info? 33).map (fun i => (i.zero, i.size, i.bytes)) = some (some (.agg #[.int .u8 0, .int .i64 0, .int .i64 0]), 3, 24) := by kernel_rfl
theorem info30 : (Try.prog.info? 30).map (fun i => (i.zero, i.size, i.bytes)) = some (some (.agg #[.int .u8 0, .int .i64 0, .int .i64 0]), 3, 24) := by kernel_rfl
theorem flatT_snoc (l : List Tok) (t : Tok) : flatT (l ++ [t]) = flatT l ++ tokV t := by simp [flatT]
/-- append(v, t) of one token, v a row of the call's own -/
theorem wpList_append_tok {P : Program} {w : World} {ops : Array Oper} {rest : List Oper} {o : Oper} {a : Act} {Q : Exit → Act → World → Prop} (hgd : o.guard = none) (s x : Operand) (T e : TypeId)
    (ho : o.op = .call { callee := .builtin .append, args := #[s, x], argTypes := #[T, T] }) (ht : P.underlying T = some (.slice e)) (hinfo : (P.info? e).map (fun i => (i.zero, i.size, i.bytes)) = some (some (.agg #[.int .u8 0, .int .i64 0, .int .i64 0]), 3, 24))
    (base : Nat) (v : Value) (ts : List Tok) (hs : a.eval s = v) (hown : w.ownsRow base e 3 v ts.length (flatT ts))
    (g : Nat) (t : Tok) (hx : a.eval x = .slice (some ⟨g, 0, none⟩) 1 1) (c0 : w.cell? ⟨g, 0, none⟩ = some (.int .u8 t.lit.toNat)) (c1 : w.cell? ⟨g, 1, none⟩ = some (.int .i64 t.len)) (c2 : w.cell? ⟨g, 2, none⟩ = some (.int .i64 t.back))
    (hl : ts.length ≤ 5000000) (hbase : base ≤ w.heap.size)
    (h : ∀ v' w', w'.ownsRow base e 3 v' (ts ++ [t]).length (flatT (ts ++ [t])) → w.grownBy w' v.ownBlock → wpList P ops Q rest (a.put o.dst v') w') : wpList P ops Q (o :: rest) a w := by
  obtain ⟨i0, hi, hz0, hz1, hz2⟩ := info_parts hinfo
  refine wpList_append_own _ hgd s x T ho base e i0 _ 3 24 ht hi hz0 hz1 hz2 rfl (by decide) v ts.length (flatT ts) hs hown ⟨g, 0, none⟩ 1 1 (tokV t) hx rfl ?_ ?_ (by unfold maxLen; omega) (by omega) hbase ?_
  · intro j u hj
    match j with
    | 0 => simp [tokV] at hj; subst hj; exact c0
    | 1 => simp [tokV] at hj; subst hj; rw [add_plain']; exact c1
    | 2 => simp [tokV] at hj; subst hj; rw [add_plain']; exact c2
    | j + 3 => simp [tokV] at hj
  · intro u hu
    simp [tokV] at hu
    rcases hu with rfl | rfl | rfl <;> rfl
  · intro v' w' h1 h2 _
    rw [← flatT_snoc] at h1
    exact h v' w' (by simpa using h1) h2
end Go.Proofs.Ytaoodggdopdkeaa
