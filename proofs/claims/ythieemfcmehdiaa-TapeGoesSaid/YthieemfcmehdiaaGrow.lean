/- append of one item onto a slice whose room is used up, at a step of a region that draws its order. -/
import Derived.Test.YthieemfcmehdiaaPut
import Derived.Laws.Append
namespace Go.Proofs.Ythieemfcmehdiaa
open Go.RowKit

theorem info44 : (Try.prog.info? 44).map (fun i => (i.size, i.bytes)) = some (2, 32) ∧ ((Try.prog.info? 44).bind (·.zero)).isSome = true := by constructor <;> kernel_rfl
theorem step_append_item {w : World} {ops : Array Oper} {o : Oper} {a : Act} {K : Act → World → Prop} {Q : Exit → Act → World → Prop} {E : Prop} (hgd : o.guard = none) (s x : Operand)
    (ho : o.op = .call { callee := .builtin .append, args := #[s, x], argTypes := #[36, 36] })
    (A : Option Addr) (n : Nat) (hn : n ≤ 2097152) (hs : a.eval s = .slice A n n) (hA : A = none → n = 0) (olds : List Value) (hlo : olds.length = 2 * n) (holds : ∀ ad, A = some ad → ∀ j v, olds[j]? = some v → w.cell? (ad.add j) = some v)
    (g : Addr) (b : Bool) (v : Value) (hx : a.eval x = .slice (some g) 1 1) (h0 : w.cell? (g.add 0) = some (.bool b)) (h1 : w.cell? (g.add 1) = some v)
    (h : ∀ k W, n + 1 ≤ k → (∃ tail : Array Value, W = w.drew.alloc (.cells ((olds ++ [.bool b, v]).toArray ++ tail) 44)) → K (a.put o.dst (.slice (some ⟨w.heap.size, 0, none⟩) (n + 1) k)) W) :
    if Region.wanted o (yielded ops a.tmps) = true then Oper.wp Try.prog o a w K Q else E := by
  have hw : Region.wanted o (yielded ops a.tmps) = true := by simp [Region.wanted, hgd]
  rw [if_pos hw]
  obtain ⟨i, hi⟩ : ∃ i, Try.prog.info? 44 = some i := by
    cases e : Try.prog.info? 44 with
    | some i => exact ⟨i, rfl⟩
    | none => have := info44.1; rw [e] at this; cases this
  have hsz : i.size = 2 ∧ i.bytes = 32 := by have := info44.1; rw [hi] at this; simpa using this
  obtain ⟨z, hz⟩ : ∃ z, i.zero = some z := by have := info44.2; rw [hi] at this; simpa [Option.isSome_iff_exists] using this
  have hnews : ∀ j u, [Value.bool b, v][j]? = some u → w.cell? (g.add j) = some u := by
    intro j u hj
    match j with
    | 0 => simp at hj; subst hj; exact h0
    | 1 => simp at hj; subst hj; exact h1
    | j + 2 => simp at hj
  cases A with
  | none =>
    obtain rfl := hA rfl
    have hol : olds = [] := List.eq_nil_of_length_eq_zero (by omega)
    subst hol
    have hrun := run_append_nil (P := Try.prog) (w := w) 36 o.type 44 i z Try.underlying36 hi hz g 1 1 [.bool b, v] (by simp [hsz.1]) hnews (by omega) (by omega) (by rw [hsz.2]; omega)
    unfold Oper.wp
    simp [execOp, ho, resolve, invoke, builtin, hs, hx, hrun, Result.andThen]
    exact h _ _ (grownCap_ge w 1 0 44) ⟨_, rfl⟩
  | some ad =>
    have hrun := run_append_grow (P := Try.prog) (w := w) 36 o.type 44 i z Try.underlying36 hi hz ad n n olds (by rw [hsz.1]; omega) (holds ad rfl) g 1 1 [.bool b, v] (by simp [hsz.1]) hnews (by omega) (by omega) (by rw [hsz.2]; exact growslice_fits_succ (by omega) (by omega))
    unfold Oper.wp
    simp [execOp, ho, resolve, invoke, builtin, hs, hx, hrun, Result.andThen]
    exact h _ _ (grownCap_ge w (n + 1) n 44) ⟨_, rfl⟩

set_option maxRecDepth 100000 in
theorem put_no {w : World} {T cap safe c : Nat} {xs : List Thing} {A : Option Addr} (h : IsTape w T cap xs safe A c) (b : Bool) (B : Option Addr) (n k : Nat) (hn : n ≤ 20000000) (hr : cap < used xs + (8 + n)) :
    Calls Try.prog 33 #[.pointer (some ⟨T, 0, none⟩), .agg #[.bool b, .slice B n k]] w fun e w' => e = .returned (.int .i64 11) ∧ Below w.heap.size w w' := by
  have H := hid h
  have hf := h.fits
  clear h
  go_enter Try.func33, Try.ntmps33
  go_wp2_with fail
  refine (size_any b B n k _ hn).mono ?_
  rintro e w1 ⟨rfl, hw1⟩
  have b1 : Below w.heap.size w w1 := by rw [hw1]; exact (below_new _ _).alloc (by simp) _
  have H1 := hid (H.out.below b1)
  have B1 := hid b1
  clear hw1 b1
  go_wp2_with fail
  refine (room_any H1.out).mono ?_
  rintro e w2 ⟨rfl, md, hw2⟩
  have b2 : Below w.heap.size w w2 := by rw [hw2]; exact B1.out.trans ((Calm.of_drewN w1 md).below _)
  obtain ⟨r, hrr⟩ : ∃ r : Int, (cap : Int) - used xs = r := ⟨_, rfl⟩
  rw [hrr]
  have hlt : decide (r < 8 + (n : Int)) = true := by simp; omega
  have B2 := hid b2
  clear hw2 b2 hrr
  go_wp2
  go_ret
  exact ⟨rfl, B2.out⟩

end Go.Proofs.Ythieemfcmehdiaa
