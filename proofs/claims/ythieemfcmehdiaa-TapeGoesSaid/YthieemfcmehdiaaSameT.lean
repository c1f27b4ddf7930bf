/- Same: items read alike are the same. -/
import Derived.Test.YthieemfcmehdiaaItems
import Derived.Deep.DeepCutAuto
namespace Go.Proofs.Ythieemfcmehdiaa
open Go.RowKit
set_option linter.unusedSimpArgs false
set_option linter.unusedVariables false
set_option maxHeartbeats 1000000 in
set_option maxRecDepth 100000 in
theorem eq_same {w : World} {A A' : Option Addr} {l : List UInt8} (c c' : Nat) (h : Reads w A (bytesV l)) (h' : Reads w A' (bytesV l)) :
    Calls Try.prog 37 #[.slice A l.length c, .slice A' l.length c'] w fun e w' => e = .returned (.bool true) ∧ ∃ n, w' = w.drewN n := by
  have H := hid h
  have H' := hid h'
  have hl : l.length ≤ 9223372036854775807 := by have := h.1; simpa [bytesV] using this
  clear h h'
  go_enter Try.func37, Try.ntmps37
  go_wp2
  go_loopw [13] (fun i wr => ∃ k : Nat, k ≤ l.length ∧ i = .int .i64 k ∧ ∃ n, wr = w.drewN n) (fun i _ => l.length - (intOf i).toNat)
  case atStart => exact ⟨0, by omega, rfl, 0, rfl⟩
  case round =>
    obtain ⟨k, hk, rfl, n0, rfl⟩ := hrel
    by_cases hlt : k < l.length
    · have dl : decide (k < l.length) = true := by simpa using hlt
      obtain ⟨ad, rfl, q⟩ := H.out.2 k (by simpa [bytesV] using hlt)
      obtain ⟨ad', rfl, q'⟩ := H'.out.2 k (by simpa [bytesV] using hlt)
      simp only [bytesV, List.getElem_map] at q q'
      obtain ⟨x, hx⟩ : ∃ x : Int, ((l[k]).toNat : Int) = x := ⟨_, rfl⟩
      rw [hx] at q q'
      have hki : (k : Int) < (l.length : Int) := by omega
      have hk0 : (0 : Int) ≤ (k : Int) := by omega
      clear hx
      go_wp2
      go_quiet (fail)
      go_wp2
      go_roundw
      case rel => exact ⟨k + 1, by omega, by go_num, _, rfl⟩
      case measure => simp [intOf]; omega
    · have dl : decide (k < l.length) = false := by simpa using hlt
      go_wp2
      go_ret
      exact ⟨rfl, _, rfl⟩
set_option maxHeartbeats 1000000 in
set_option maxRecDepth 100000 in
theorem same1_same {w : World} {A A' : Option Addr} {b : Bool} {l : List UInt8} (c c' : Nat) (h : Reads w A (bytesV l)) (h' : Reads w A' (bytesV l)) :
    Calls Try.prog 36 #[.agg #[.bool b, .slice A l.length c], .agg #[.bool b, .slice A' l.length c']] w fun e w' => e = .returned (.bool true) ∧ Below w.heap.size w w' := by
  obtain ⟨W, hW⟩ : ∃ W, (w.alloc (.cells #[.bool b, .slice A l.length c] 44)).alloc (.cells #[.bool b, .slice A' l.length c'] 44) = W := ⟨_, rfl⟩
  have bW : Below w.heap.size w W := by rw [← hW]; exact (below_new w _).alloc (by simp) _
  have HW := hid hW
  have BW := hid bW
  have q0 : W.cell? ⟨w.heap.size, 0, none⟩ = some (.bool b) := by rw [← hW]; exact cell_past _ ((cell_new w _ 44 (0, 0) 0).trans rfl)
  have q1 : W.cell? ⟨w.heap.size, 1, none⟩ = some (.slice A l.length c) := by rw [← hW]; exact cell_past _ ((cell_new w _ 44 (0, 0) 1).trans rfl)
  have p0 : W.cell? ⟨w.heap.size + 1, 0, none⟩ = some (.bool b) := by rw [← hW]; simp
  have p1 : W.cell? ⟨w.heap.size + 1, 1, none⟩ = some (.slice A' l.length c') := by rw [← hW]; simp
  have H := hid (h.below bW)
  have H' := hid (h'.below bW)
  clear h h' bW hW
  go_enter Try.func36, Try.ntmps36
  go_upto_region 1 with (fail)
  have hw := HW.out
  rw [hw]
  clear hw
  go_wp2_with fail
  refine (eq_same c c' H.out H'.out).mono ?_
  rintro e w2 ⟨rfl, n, rfl⟩
  go_wp2_with fail
  go_ret
  exact ⟨rfl, BW.out.trans ((Calm.of_drewN W n).below _)⟩
/-- a slice of items, read -/
def ReadsI (w : World) (A : Option Addr) (xs : List Thing) : Prop := xs.length ≤ 9223372036854775807 ∧ ∀ i (h : i < xs.length), ∃ ad, A = some ad ∧ w.cell? (ad.add (i * 2)) = some (.bool xs[i].1) ∧
  ∃ B k, w.cell? ⟨(ad.add (i * 2)).block, (ad.add (i * 2)).off + 1, none⟩ = some (.slice B xs[i].2.length k) ∧ Reads w B (bytesV xs[i].2)
theorem ReadsI.below {w w' : World} {A : Option Addr} {xs : List Thing} (h : ReadsI w A xs) (b : Below w.heap.size w w') : ReadsI w' A xs := ⟨h.1, fun i hi => by
  obtain ⟨ad, e, c0, B, k, c1, hr⟩ := h.2 i hi
  exact ⟨ad, e, cell_below b c0, B, k, cell_below b c1, hr.below b⟩⟩
set_option maxHeartbeats 2000000 in
set_option maxRecDepth 100000 in
theorem equal_same {w : World} {A A' : Option Addr} {xs : List Thing} (c c' : Nat) (h : ReadsI w A xs) (h' : ReadsI w A' xs) :
    Calls Try.prog 35 #[.slice A xs.length c, .slice A' xs.length c', .func (.func 36) #[] #[]] w fun e w' => e = .returned (.bool true) ∧ Below w.heap.size w w' := by
  have H := hid h
  have H' := hid h'
  have hl := h.1
  clear h h'
  go_enter Try.func35, Try.ntmps35
  go_wp2
  go_loopw [17] (fun i wr => ∃ k : Nat, k ≤ xs.length ∧ i = .int .i64 k ∧ Hid (Below w.heap.size w wr)) (fun i _ => xs.length - (intOf i).toNat)
  case atStart => exact ⟨0, by omega, rfl, hid (Below.refl _ _)⟩
  case round =>
    obtain ⟨k, hk, rfl, HB⟩ := hrel
    obtain ⟨wo, rfl⟩ : ∃ wo : World, wo = wr := ⟨_, rfl⟩
    by_cases hlt : k < xs.length
    · have dl : decide (k < xs.length) = true := by simpa using hlt
      obtain ⟨ad, rfl, a0, B, kB, a1, hr⟩ := (H.out.below HB.out).2 k hlt
      obtain ⟨ad', rfl, a0', B', kB', a1', hr'⟩ := (H'.out.below HB.out).2 k hlt
      obtain ⟨x, hx⟩ : ∃ x, xs[k] = x := ⟨_, rfl⟩
      rw [hx] at a0 a1 hr a0' a1' hr'
      have p0 := cell_past (.cells #[.bool x.1, .slice B x.2.length kB] 44) a0'
      have p1 := cell_past (.cells #[.bool x.1, .slice B x.2.length kB] 44) a1'
      have HR := hid hr
      have HR' := hid hr'
      have hki : (k : Int) < (xs.length : Int) := by omega
      have hk0 : (0 : Int) ≤ (k : Int) := by omega
      clear hx hr hr' a0' a1'
      go_upto_region 7 with (fail)
      obtain ⟨W, hW⟩ : ∃ W, (wo.alloc (.cells #[.bool x.1, .slice B x.2.length kB] 44)).alloc (.cells #[.bool x.1, .slice B' x.2.length kB'] 44) = W := ⟨_, rfl⟩
      have bW : Below wo.heap.size wo W := by rw [← hW]; exact (below_new wo _).alloc (by simp) _
      have s0 : W.cell? ⟨wo.heap.size, 0, none⟩ = some (.bool x.1) := by rw [← hW]; exact cell_past _ ((cell_new wo _ 44 (0, 0) 0).trans rfl)
      have s1 : W.cell? ⟨wo.heap.size, 1, none⟩ = some (.slice B x.2.length kB) := by rw [← hW]; exact cell_past _ ((cell_new wo _ 44 (0, 0) 1).trans rfl)
      have t0 : W.cell? ⟨wo.heap.size + 1, 0, none⟩ = some (.bool x.1) := by rw [← hW]; simp
      have t1 : W.cell? ⟨wo.heap.size + 1, 1, none⟩ = some (.slice B' x.2.length kB') := by rw [← hW]; simp
      rw [hW]
      have HRW := hid (HR.out.below bW)
      have HRW' := hid (HR'.out.below bW)
      have BW := hid bW
      clear hW bW p0 p1 a0 a1
      go_wp2_with fail
      refine (same1_same kB kB' HRW.out HRW'.out).mono ?_
      rintro e w5 ⟨rfl, b5⟩
      have B5 := hid (below_tr HB.out HB.out.size (below_trans BW.out b5))
      clear b5 s0 s1 t0 t1
      go_wp2_with fail
      go_roundw
      case rel => exact ⟨k + 1, by omega, by go_num, B5⟩
      case measure => simp [intOf]; omega
    · have dl : decide (k < xs.length) = false := by simpa using hlt
      go_wp2
      go_ret
      exact ⟨rfl, HB.out⟩
set_option maxRecDepth 100000 in
theorem same_tape {w : World} {A A' : Option Addr} {xs : List Thing} (c c' : Nat) (h : ReadsI w A xs) (h' : ReadsI w A' xs) :
    Calls Try.prog 27 #[.slice A xs.length c, .slice A' xs.length c'] w fun e w' => e = .returned (.bool true) ∧ Below w.heap.size w w' := by
  have H := hid h
  have H' := hid h'
  clear h h'
  go_enter Try.func27, Try.ntmps27
  go_wp2_with fail
  refine (equal_same c c' H.out H'.out).mono ?_
  rintro e w1 ⟨rfl, b1⟩
  have B1 := hid b1
  clear b1
  go_wp2_with fail
  go_ret
  exact ⟨rfl, B1.out⟩
theorem heads_at : ∀ (gs : List Got) (j : Nat) (h : j < gs.length), (heads gs)[j * 2]? = some (.bool gs[j].t.1) ∧ (heads gs)[j * 2 + 1]? = some (.slice gs[j].B gs[j].t.2.length gs[j].c)
  | [], j, h => absurd h (by simp)
  | x :: gs, 0, _ => by simp [heads]
  | x :: gs, j + 1, h => by
    have ih := heads_at gs j (by simpa using h)
    have e : heads (x :: gs) = Value.bool x.t.1 :: Value.slice x.B x.t.2.length x.c :: heads gs := by simp [heads]
    rw [e, show (j + 1) * 2 = j * 2 + 1 + 1 by omega]
    simpa using ih
/-- what Items gave is read as the items -/
theorem ListIs.reads {W : World} {e : TypeId} {base : Nat} {v : Value} {xs : List Thing} (h : ListIs W e base v xs) (hn : xs.length ≤ 9223372036854775807) : ∃ A c, v = .slice A xs.length c ∧ ReadsI W A xs ∧ (A = none → c = 0) ∧ xs.length ≤ c := by
  obtain ⟨gs, rfl, ho, hg⟩ := h
  rcases ho.2 with ⟨rfl, h0⟩ | ⟨g, cap, cur, rfl, hb, hgg, hnc, _⟩
  · obtain rfl := List.eq_nil_of_length_eq_zero h0
    exact ⟨none, 0, rfl, ⟨by simp, fun i hi => by simp at hi⟩, fun _ => rfl, by simp⟩
  · refine ⟨some ⟨g, 0, none⟩, cap, by simp, ⟨hn, fun i hi => ?_⟩, fun h => (by cases h), by simpa using hnc⟩
    have hi' : i < gs.length := by simpa using hi
    have row := ho.cells (g := g) rfl
    obtain ⟨h1, h2⟩ := heads_at gs i hi'
    have c0 := row _ _ h1
    have c1 := row _ _ h2
    have e1 : (gs.map (·.t))[i] = gs[i].t := by simp
    rw [e1]
    refine ⟨⟨g, 0, none⟩, rfl, c0, gs[i].B, gs[i].c, ?_, (hg _ (List.getElem_mem hi')).1⟩
    rw [add_one'] at c1
    exact c1
end Go.Proofs.Ythieemfcmehdiaa
