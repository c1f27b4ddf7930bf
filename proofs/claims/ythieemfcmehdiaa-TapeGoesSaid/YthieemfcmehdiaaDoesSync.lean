/- does: Sync. -/
import Derived.Test.YthieemfcmehdiaaDoesBase
namespace Go.Proofs.Ythieemfcmehdiaa
open Go.RowKit
set_option linter.unusedSimpArgs false
set_option linter.unusedVariables false
set_option maxHeartbeats 8000000 in
set_option maxRecDepth 100000 in
theorem does_sync {w : World} {T cap safe c c2 : Nat} {xs : List Thing} {A A2 : Option Addr} (h : IsTape w T cap xs safe A c) (hr : RefIs w T cap xs safe A2 c2) (nn mm : Int) (B : Option Addr) (lb k : Nat) :
    Calls Try.prog 12 #[.pointer (some ⟨T, 0, none⟩), refV cap xs.length safe A2 c2, .agg #[.int .i64 2, .int .i64 nn, .int .i64 mm, .slice B lb k]] w fun e w' => Did w w' T cap xs xs.length e := by
  have hl := hr.len
  have hsl := h.safe
  have lt := h.lt
  obtain ⟨W, hW⟩ : ∃ W, (((w.alloc (.cells #[.int .i64 cap, .slice A2 xs.length c2, .int .i64 safe] 29)).alloc (.cells #[.int .i64 2, .int .i64 nn, .int .i64 mm, .slice B lb k] 32)).alloc (.cells #[.int .i64 0, .slice none 0 0, .int .i64 0] 29)) = W := ⟨_, rfl⟩
  have bx := boxes_new (cap := cap) (n := xs.length) (safe := safe) (A := A2) (c := c2) (vb := 2) (nn := nn) (mm := mm) (B := B) (lb := lb) (k := k) w
  rw [hW] at bx
  have bW : Below w.heap.size w W := by rw [← hW]; exact ((below_new w _).alloc (by simp) _).alloc (by simp; omega) _
  have H0 := hid h
  have R0 := hid hr
  have HT := hid (h.below bW)
  have HR := hid (hr.keep (Rest.below bW))
  have HW := hid hW
  have BW := hid bW
  have BX0 := hid bx
  clear h hr hW bW bx
  go_enter Try.func12, Try.ntmps12
  go_upto_region 1 with (fail)
  have hw := HW.out
  rw [hw]
  obtain ⟨G, hG⟩ : ∃ G, w.heap.size = G := ⟨_, rfl⟩
  have BX := BX0
  rw [hG] at BX lt ⊢
  have HGG := hid hG
  have c0 := BX.out.d0
  clear hw hG HW BX0
  go_wp2_with fail
  refine (sync_any HT.out).mono ?_
  rintro e w1 ⟨⟨v, rfl⟩, hw1⟩
  have h1 := HT.out.synced
  rw [← hw1] at h1
  have t1 : Touch [T] W w1 := by rw [hw1]; exact Touch.setCell W ⟨T, 2, none⟩ _
  have bx1 := BX.out.keep t1 (by intro x hx; simp at hx; omega)
  have R1 := hid (HR.out.keep (rest_touch t1))
  have H1 := hid h1
  have T1 := hid t1
  have BX1 := hid bx1
  have q1 := bx1.r1
  have q2 := bx1.r2
  have qf := bx1.rf
  clear hw1 h1 t1 bx1 c0
  go_upto_region 26 with (fail)
  have tz : Touch [G] w1 (w1.setCell ⟨G, 2, none⟩ (.int .i64 xs.length)) := Touch.setCell w1 ⟨G, 2, none⟩ _
  have g0 := heap_setCell_same w1 G 2 _ 29 (.int .i64 xs.length) BX1.out.r
  have gz := (tz.block (G + 1 + 1) (Array.getElem?_eq_some_iff.1 BX1.out.z).1 (by simp; omega)).trans BX1.out.z
  have h2 := H1.out.aside BX1.out.r (plain_ref _ _ _ _ _) tz (by omega)
  have p2 := R1.out.aside BX1.out.r (plain_ref _ _ _ _ _) tz
  have t2 : Touch [T] w (w1.setCell ⟨G, 2, none⟩ (.int .i64 xs.length)) := ((Touch.of_below BW.out [T]).trans T1.out (by simp)).trans tz (by intro x hx; simp at hx; right; have := HGG.out; omega)
  obtain ⟨W2, hW2⟩ : ∃ n, w1.setCell ⟨G, 2, none⟩ (.int .i64 xs.length) = n := ⟨_, rfl⟩
  rw [hW2] at tz g0 gz h2 p2 t2 ⊢
  have r0 : W2.cell? ⟨G, 0, none⟩ = some (.int .i64 cap) := (cell_of_row W2 _ 0 _ _ _ g0).trans rfl
  have r1 : W2.cell? ⟨G, 1, none⟩ = some (.slice A2 xs.length c2) := (cell_of_row W2 _ 1 _ _ _ g0).trans rfl
  have r2 : W2.cell? ⟨G, 2, none⟩ = some (.int .i64 xs.length) := (cell_of_row W2 _ 2 _ _ _ g0).trans rfl
  have z0 : W2.cell? ⟨G + 1 + 1, 0, none⟩ = some (.int .i64 0) := (cell_of_row W2 _ 0 _ _ _ gz).trans rfl
  have z1 : W2.cell? ⟨G + 1 + 1, 1, none⟩ = some (.slice none 0 0) := (cell_of_row W2 _ 1 _ _ _ gz).trans rfl
  have z2 : W2.cell? ⟨G + 1 + 1, 2, none⟩ = some (.int .i64 0) := (cell_of_row W2 _ 2 _ _ _ gz).trans rfl
  have zf0 : W2.frozen? ⟨G + 1 + 1, 0, none⟩ = false := frozen_of_row W2 _ 0 _ _ gz
  have zf1 : W2.frozen? ⟨G + 1 + 1, 1, none⟩ = false := frozen_of_row W2 _ 1 _ _ gz
  have zf2 : W2.frozen? ⟨G + 1 + 1, 2, none⟩ = false := frozen_of_row W2 _ 2 _ _ gz
  have H2 := hid h2
  have P2 := hid (show RefIs W2 T cap xs xs.length A2 c2 from ⟨p2.1, p2.2.1, p2.2.2.1, p2.2.2.2.1, p2.2.2.2.2.1, Nat.le_refl _⟩)
  have T2 := hid t2
  have GZ := hid gz
  clear hW2 tz g0 gz h2 p2 t2 q1 q2 qf
  go_wp2_with fail
  have fin := did_end H2.out P2.out GZ.out (by rw [HGG.out]; exact Nat.le_refl _) (by rw [HGG.out]; exact lt) T2.out xs.length rfl
  refine bodyPost_ret (results_cell_tmp rfl _ _ (G + 1 + 1) 29 _ (0, 0) _ rfl fin.1 Try.underlying29 rfl (by kernel_rfl)) rfl ?_
  exact fin.2
end Go.Proofs.Ythieemfcmehdiaa
