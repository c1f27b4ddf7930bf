/- same: items read alike are the document's. -/
import Derived.Test.YthieemfcmehdiaaGiven
import Derived.Test.YthieemfcmehdiaaHeld
import Derived.Laws.BytesArg
namespace Go.Proofs.Ythieemfcmehdiaa
open Go.RowKit
set_option linter.unusedSimpArgs false
set_option linter.unusedVariables false
/-- bytes as a string -/
def strL (l : List UInt8) : ByteArray := (l.map fun b => (b.toNat : Int)).foldl (fun r n => r.push (UInt8.ofNat n.toNat)) ByteArray.empty
theorem run_string {w : World} {B : Option Addr} {l : List UInt8} (h : Reads w B (bytesV l)) (c : Nat) : (convert 30 9 (.slice B l.length c)).run Try.prog w = .ok (.string (strL l)) w := by
  rw [run_convert_bytes_string w 30 9 5 B l.length c Try.underlying30 Try.underlying5 Try.underlying9]
  cases B with
  | none =>
    have hl : l = [] := by
      cases l with
      | nil => rfl
      | cons x l => obtain ⟨ad, e, _⟩ := h.2 0 (by simp [bytesV]); cases e
    subst hl
    rfl
  | some ad =>
    refine run_bytesToString w ad l.length c (l.map fun b => (b.toNat : Int)) ?_
    have q := run_loadCells_list (P := Try.prog) w ad (bytesV l) (fun j v hj => by
      obtain ⟨hlt, rfl⟩ := List.getElem?_eq_some_iff.1 hj
      obtain ⟨ad', e, hc⟩ := h.2 j hlt
      cases e
      exact hc)
    simpa [bytesV, Function.comp_def] using q
/-- what the region of same reads -/
structure SameS (X : Nat) (ad : Addr) (b : Bool) (l : List UInt8) (B B' : Option Addr) (c c' : Nat) (w : World) : Prop where
  x0 : w.cell? ⟨X, 0, none⟩ = some (.bool b)
  x1 : w.cell? ⟨X, 1, none⟩ = some (.slice B l.length c)
  y0 : w.cell? ad = some (.bool b)
  y1 : w.cell? ⟨ad.block, ad.off + 1, none⟩ = some (.slice B' l.length c')
  hx : Reads w B (bytesV l)
  hy : Reads w B' (bytesV l)
theorem conv_step {eval : Operand → Value} {o : Oper} {w : World} (x : Operand) (B : Option Addr) (l : List UInt8) (c : Nat) (ho : o.op = .convert 30 9 x) (hx : eval x = .slice B l.length c) (h : Reads w B (bytesV l)) :
    (execOp eval o).run Try.prog w = .ok (.value (.string (strL l))) w := by
  simp [execOp, ho, hx, run_string h c]
set_option maxHeartbeats 4000000 in
set_option maxRecDepth 100000 in
theorem same_any {w : World} {A A' : Option Addr} {xs : List Thing} (c c' : Nat) (h : ReadsI w A xs) (h' : ReadsI w A' xs) (hl : xs.length ≤ 2097152) :
    Calls Try.prog 13 #[.slice A xs.length c, .slice A' xs.length c'] w fun e w' => e = .returned (.bool true) ∧ Below w.heap.size w w' := by
  have H := hid h
  have H' := hid h'
  clear h h'
  go_enter Try.func13, Try.ntmps13
  go_wp2_with fail
  refine (given_any c H.out hl).mono ?_
  rintro e w1 ⟨⟨A1, c1, rfl, h1⟩, b1⟩
  have H1 := hid h1
  have HB1 := hid b1
  have HY := hid (H'.out.below b1)
  clear h1 b1
  go_wp2_with fail
  go_loopw [15] (fun i wr => ∃ k : Nat, k ≤ xs.length ∧ i = .int .i64 k ∧ Hid (Below w1.heap.size w1 wr)) (fun i _ => xs.length - (intOf i).toNat)
  case atStart => exact ⟨0, by omega, rfl, hid (Below.refl _ _)⟩
  case round =>
    obtain ⟨k, hk, rfl, HB⟩ := hrel
    obtain ⟨wo, rfl⟩ : ∃ wo : World, wo = wr := ⟨_, rfl⟩
    by_cases hlt : k < xs.length
    · have dl : decide (k < xs.length) = true := by simpa using hlt
      obtain ⟨ad, rfl, a0, B, kB, a1, hr⟩ := (H1.out.below HB.out).2 k hlt
      obtain ⟨ad', rfl, a0', B', kB', a1', hr'⟩ := (HY.out.below HB.out).2 k hlt
      obtain ⟨x, hx⟩ : ∃ x, xs[k] = x := ⟨_, rfl⟩
      rw [hx] at a0 a1 hr a0' a1' hr'
      obtain ⟨b, l⟩ := x
      dsimp only at a0 a1 hr a0' a1' hr'
      have hki : (k : Int) < (xs.length : Int) := by omega
      have hk0 : (0 : Int) ≤ (k : Int) := by omega
      have hx0 : (wo.alloc (.cells #[.bool b, .slice B l.length kB] 45)).cell? ⟨wo.heap.size, 0, none⟩ = some (.bool b) := (cell_new wo _ 45 (0, 0) 0).trans rfl
      have hx1 : (wo.alloc (.cells #[.bool b, .slice B l.length kB] 45)).cell? ⟨wo.heap.size, 1, none⟩ = some (.slice B l.length kB) := (cell_new wo _ 45 (0, 0) 1).trans rfl
      have bb := below_new wo (.cells #[.bool b, .slice B l.length kB] 45)
      have hs0 : SameS wo.heap.size (ad'.add (k * 2)) b l B B' kB kB' (wo.alloc (.cells #[.bool b, .slice B l.length kB] 45)) := ⟨hx0, hx1, cell_below bb a0', cell_below bb a1', hr.below bb, hr'.below bb⟩
      have HS0 := hid hs0
      clear hx hr hr' a0' a1' hx0 hx1 hs0
      go_upto_region 6 with (fail)
      obtain ⟨W5, hW5⟩ : ∃ n, wo.alloc (.cells #[.bool b, .slice B l.length kB] 45) = n := ⟨_, rfl⟩
      rw [hW5] at HS0 bb ⊢
      obtain ⟨X, hX⟩ : ∃ g, wo.heap.size = g := ⟨_, rfl⟩
      have HBB := hid (below_tr HB.out HB.out.size bb)
      rw [hX] at HS0 ⊢
      clear hW5 hX a0 a1 bb
      have hS : SameS X (ad'.add (k * 2)) b l B B' kB kB' W5.drew := by
        have b2 : Below W5.heap.size W5 W5.drew := (Below.refl _ _).drew
        have h := HS0.out
        exact ⟨cell_below b2 h.x0, cell_below b2 h.x1, cell_below b2 h.y0, cell_below b2 h.y1, h.hx.below b2, h.hy.below b2⟩
      refine start_held (n := 20) (l := #[false, false, false, false, false, false, false, false, false, false, false, false, false, false, false, false, false, false, false, false]) (S := SameS X (ad'.add (k * 2)) b l B B' kB kB') (by kernel_rfl) hS (by kernel_rfl) (by kernel_rfl) ?_
      refine take_held (i := 0) (v := ?_) rfl (by kernel_rfl) (by kernel_rfl) (by kernel_rfl) (fun _ _ _ h => h) (by kernel_rfl) ?_ hS ?_
      rotate_left
      · (rintro w s1; obtain ⟨q0, q1, q2, q3, _, _⟩ := s1; go_simp; try with_reducible rfl)
      simp only [Act.put, List.setIfInBounds_toArray, List.set_cons_zero, List.set_cons_succ]
      refine take_held (i := 1) (v := ?_) rfl (by kernel_rfl) (by kernel_rfl) (by kernel_rfl) (fun _ _ _ h => h) (by kernel_rfl) ?_ hS ?_
      rotate_left
      · (rintro w s1; obtain ⟨q0, q1, q2, q3, _, _⟩ := s1; go_simp; try with_reducible rfl)
      simp only [Act.put, List.setIfInBounds_toArray, List.set_cons_zero, List.set_cons_succ]
      refine take_held (i := 2) (v := ?_) rfl (by kernel_rfl) (by kernel_rfl) (by kernel_rfl) (fun _ _ _ h => h) (by kernel_rfl) ?_ hS ?_
      rotate_left
      · (rintro w s1; obtain ⟨q0, q1, q2, q3, _, _⟩ := s1; go_simp; try with_reducible rfl)
      simp only [Act.put, List.setIfInBounds_toArray, List.set_cons_zero, List.set_cons_succ]
      refine take_held (i := 3) (v := ?_) rfl (by kernel_rfl) (by kernel_rfl) (by kernel_rfl) (fun _ _ _ h => h) (by kernel_rfl) ?_ hS ?_
      rotate_left
      · (rintro w s1; obtain ⟨q0, q1, q2, q3, _, _⟩ := s1; go_simp; try with_reducible rfl)
      simp only [Act.put, List.setIfInBounds_toArray, List.set_cons_zero, List.set_cons_succ]
      refine take_held (i := 4) (v := ?_) rfl (by kernel_rfl) (by kernel_rfl) (by kernel_rfl) (fun _ _ _ h => h) (by kernel_rfl) ?_ hS ?_
      rotate_left
      · (rintro w s1; obtain ⟨q0, q1, q2, q3, _, _⟩ := s1; go_simp; try with_reducible rfl)
      simp only [Act.put, List.setIfInBounds_toArray, List.set_cons_zero, List.set_cons_succ]
      refine take_held (i := 5) (v := ?_) rfl (by kernel_rfl) (by kernel_rfl) (by kernel_rfl) (fun _ _ _ h => h) (by kernel_rfl) ?_ hS ?_
      rotate_left
      · (rintro w s1; obtain ⟨q0, q1, q2, q3, _, _⟩ := s1; go_simp; try with_reducible rfl)
      simp only [Act.put, List.setIfInBounds_toArray, List.set_cons_zero, List.set_cons_succ]
      refine take_held (i := 6) (v := ?_) rfl (by kernel_rfl) (by kernel_rfl) (by kernel_rfl) (fun _ _ _ h => h) (by kernel_rfl) ?_ hS ?_
      rotate_left
      · (rintro w s1; obtain ⟨q0, q1, q2, q3, _, _⟩ := s1; go_simp; try with_reducible rfl)
      simp only [Act.put, List.setIfInBounds_toArray, List.set_cons_zero, List.set_cons_succ]
      refine take_held (i := 7) (v := ?_) rfl (by kernel_rfl) (by kernel_rfl) (by kernel_rfl) (fun _ _ _ h => h) (by kernel_rfl) ?_ hS ?_
      rotate_left
      · (rintro w s1; obtain ⟨q0, q1, q2, q3, _, _⟩ := s1; go_simp; try with_reducible rfl)
      simp only [Act.put, List.setIfInBounds_toArray, List.set_cons_zero, List.set_cons_succ]
      refine take_held (i := 8) (v := ?_) rfl (by kernel_rfl) (by kernel_rfl) (by kernel_rfl) (fun _ _ _ h => h) (by kernel_rfl) ?_ hS ?_
      rotate_left
      · (rintro w s1; obtain ⟨q0, q1, q2, q3, _, _⟩ := s1; go_simp; try with_reducible rfl)
      simp only [Act.put, List.setIfInBounds_toArray, List.set_cons_zero, List.set_cons_succ]
      refine take_held (i := 9) (v := ?_) rfl (by kernel_rfl) (by kernel_rfl) (by kernel_rfl) (fun _ _ _ h => h) (by kernel_rfl) ?_ hS ?_
      rotate_left
      · (rintro w s1; obtain ⟨q0, q1, q2, q3, _, _⟩ := s1; go_simp; try with_reducible rfl)
      simp only [Act.put, List.setIfInBounds_toArray, List.set_cons_zero, List.set_cons_succ]
      refine take_held (i := 10) (v := ?_) rfl (by kernel_rfl) (by kernel_rfl) (by kernel_rfl) (fun _ _ _ h => h) (by kernel_rfl) ?_ hS ?_
      rotate_left
      · (rintro w s1; obtain ⟨q0, q1, q2, q3, _, _⟩ := s1; go_simp; try with_reducible rfl)
      simp only [Act.put, List.setIfInBounds_toArray, List.set_cons_zero, List.set_cons_succ]
      refine take_held (i := 11) (v := .string (strL l)) rfl (by kernel_rfl) (by kernel_rfl) (by kernel_rfl) (fun _ _ _ h => h) (by kernel_rfl) ?_ hS ?_
      · (rintro w s1; exact conv_step _ B l kB rfl (by kernel_rfl) s1.hx)
      simp only [Act.put, List.setIfInBounds_toArray, List.set_cons_zero, List.set_cons_succ]
      refine take_held (i := 12) (v := ?_) rfl (by kernel_rfl) (by kernel_rfl) (by kernel_rfl) (fun _ _ _ h => h) (by kernel_rfl) ?_ hS ?_
      rotate_left
      · (rintro w s1; obtain ⟨q0, q1, q2, q3, _, _⟩ := s1; go_simp; try with_reducible rfl)
      simp only [Act.put, List.setIfInBounds_toArray, List.set_cons_zero, List.set_cons_succ]
      refine take_held (i := 13) (v := ?_) rfl (by kernel_rfl) (by kernel_rfl) (by kernel_rfl) (fun _ _ _ h => h) (by kernel_rfl) ?_ hS ?_
      rotate_left
      · (rintro w s1; obtain ⟨q0, q1, q2, q3, _, _⟩ := s1; go_simp; try with_reducible rfl)
      simp only [Act.put, List.setIfInBounds_toArray, List.set_cons_zero, List.set_cons_succ]
      refine take_held (i := 14) (v := ?_) rfl (by kernel_rfl) (by kernel_rfl) (by kernel_rfl) (fun _ _ _ h => h) (by kernel_rfl) ?_ hS ?_
      rotate_left
      · (rintro w s1; obtain ⟨q0, q1, q2, q3, _, _⟩ := s1; go_simp; try with_reducible rfl)
      simp only [Act.put, List.setIfInBounds_toArray, List.set_cons_zero, List.set_cons_succ]
      refine take_held (i := 15) (v := ?_) rfl (by kernel_rfl) (by kernel_rfl) (by kernel_rfl) (fun _ _ _ h => h) (by kernel_rfl) ?_ hS ?_
      rotate_left
      · (rintro w s1; obtain ⟨q0, q1, q2, q3, _, _⟩ := s1; go_simp; try with_reducible rfl)
      simp only [Act.put, List.setIfInBounds_toArray, List.set_cons_zero, List.set_cons_succ]
      refine take_held (i := 16) (v := ?_) rfl (by kernel_rfl) (by kernel_rfl) (by kernel_rfl) (fun _ _ _ h => h) (by kernel_rfl) ?_ hS ?_
      rotate_left
      · (rintro w s1; obtain ⟨q0, q1, q2, q3, _, _⟩ := s1; go_simp; try with_reducible rfl)
      simp only [Act.put, List.setIfInBounds_toArray, List.set_cons_zero, List.set_cons_succ]
      refine take_held (i := 17) (v := .string (strL l)) rfl (by kernel_rfl) (by kernel_rfl) (by kernel_rfl) (fun _ _ _ h => h) (by kernel_rfl) ?_ hS ?_
      · (rintro w s1; exact conv_step _ B' l kB' rfl (by kernel_rfl) s1.hy)
      simp only [Act.put, List.setIfInBounds_toArray, List.set_cons_zero, List.set_cons_succ]
      refine take_held (i := 18) (v := ?_) rfl (by kernel_rfl) (by kernel_rfl) (by kernel_rfl) (fun _ _ _ h => h) (by kernel_rfl) ?_ hS ?_
      rotate_left
      · (rintro w s1; obtain ⟨q0, q1, q2, q3, _, _⟩ := s1; go_simp; try with_reducible rfl)
      simp only [Act.put, List.setIfInBounds_toArray, List.set_cons_zero, List.set_cons_succ]
      refine take_held (i := 19) (v := ?_) rfl (by kernel_rfl) (by kernel_rfl) (by kernel_rfl) (fun _ _ _ h => h) (by kernel_rfl) ?_ hS ?_
      rotate_left
      · (rintro w s1; obtain ⟨q0, q1, q2, q3, _, _⟩ := s1; go_simp; try with_reducible rfl)
      simp only [Act.put, List.setIfInBounds_toArray, List.set_cons_zero, List.set_cons_succ]
      refine wpAnyH_done (by kernel_rfl) ?_ _
      clear hS
      go_wp2_with fail
      go_roundw
      case rel => exact ⟨k + 1, by omega, by go_num, hid HBB.out.drew⟩
      case measure => simp [intOf]; omega
    · have dl : decide (k < xs.length) = false := by simpa using hlt
      go_wp2
      go_ret
      exact ⟨rfl, below_trans HB1.out HB.out⟩
end Go.Proofs.Ythieemfcmehdiaa
