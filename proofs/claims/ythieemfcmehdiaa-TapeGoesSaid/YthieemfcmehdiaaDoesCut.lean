/- does: Cut. -/
import Derived.Test.YthieemfcmehdiaaDoesBase
namespace Go.Proofs.Ythieemfcmehdiaa
open Go.RowKit
set_option linter.unusedSimpArgs false
set_option linter.unusedVariables false
set_option maxHeartbeats 8000000 in
set_option maxRecDepth 100000 in
theorem does_cut_no {w : World} {T cap safe c c2 : Nat} {xs : List Thing} {A A2 : Option Addr} (h : IsTape w T cap xs safe A c) (hr : RefIs w T cap xs safe A2 c2) (nn mm : Int) (B : Option Addr) (lb k : Nat) (hn : nn < 0 ∨ (xs.length : Int) < nn) :
    Calls Try.prog 12 #[.pointer (some ⟨T, 0, none⟩), refV cap xs.length safe A2 c2, .agg #[.int .i64 3, .int .i64 nn, .int .i64 mm, .slice B lb k]] w fun e w' => Did w w' T cap xs safe e := by
  have HN := hid hn
  clear hn
  have hl := hr.len
  have hsl := h.safe
  have lt := h.lt
  obtain ⟨W, hW⟩ : ∃ W, (((w.alloc (.cells #[.int .i64 cap, .slice A2 xs.length c2, .int .i64 safe] 29)).alloc (.cells #[.int .i64 3, .int .i64 nn, .int .i64 mm, .slice B lb k] 32)).alloc (.cells #[.int .i64 0, .slice none 0 0, .int .i64 0] 29)) = W := ⟨_, rfl⟩
  have bx := boxes_new (cap := cap) (n := xs.length) (safe := safe) (A := A2) (c := c2) (vb := 3) (nn := nn) (mm := mm) (B := B) (lb := lb) (k := k) w
  rw [hW] at bx
  have bW : Below w.heap.size w W := by rw [← hW]; exact ((below_new w _).alloc (by simp) _).alloc (by simp; omega) _
  have H0 := hid h
  have R0 := hid hr
  have HT := hid (h.below bW)
  have HR := hid (hr.keep (Rest.below bW))
  have HW := hid hW
  have BW := hid bW
  have BX0 := hid bx
  clear h hr hW bW bx
  go_enter Try.func12, Try.ntmps12
  go_upto_region 1 with (fail)
  have hw := HW.out
  rw [hw]
  obtain ⟨G, hG⟩ : ∃ G, w.heap.size = G := ⟨_, rfl⟩
  have BX := BX0
  rw [hG] at BX lt ⊢
  have HGG := hid hG
  have c0 := BX.out.d0
  clear hw hG HW BX0
  have d1 := BX.out.d1
  have r0 := BX.out.r0
  have r1 := BX.out.r1
  have r2 := BX.out.r2
  have z0 := BX.out.z0
  have z1 := BX.out.z1
  have z2 := BX.out.z2
  have zf0 := BX.out.zf 0
  have zf1 := BX.out.zf 1
  have zf2 := BX.out.zf 2
  go_wp2_with fail
  refine (cut_no HT.out nn HN.out).mono ?_
  rintro e w1 ⟨rfl, rfl⟩
  by_cases h1 : nn < 0
  · go_wp2_with fail
    have fin := did_end HT.out HR.out BX.out.z (by rw [HGG.out]; exact Nat.le_refl _) (by rw [HGG.out]; exact lt) (Touch.of_below BW.out [T]) xs.length rfl
    refine bodyPost_ret (results_cell_tmp rfl _ _ (G + 1 + 1) 29 _ (0, 0) _ rfl fin.1 Try.underlying29 rfl (by kernel_rfl)) rfl ?_
    exact fin.2
  · have h2 : (xs.length : Int) < nn := by have := HN.out; omega
    go_wp2_with fail
    have fin := did_end HT.out HR.out BX.out.z (by rw [HGG.out]; exact Nat.le_refl _) (by rw [HGG.out]; exact lt) (Touch.of_below BW.out [T]) xs.length rfl
    refine bodyPost_ret (results_cell_tmp rfl _ _ (G + 1 + 1) 29 _ (0, 0) _ rfl fin.1 Try.underlying29 rfl (by kernel_rfl)) rfl ?_
    exact fin.2
set_option maxHeartbeats 8000000 in
set_option maxRecDepth 100000 in
theorem does_cut_yes {w : World} {T cap safe c c2 : Nat} {xs : List Thing} {A A2 : Option Addr} (h : IsTape w T cap xs safe A c) (hr : RefIs w T cap xs safe A2 c2) (n : Nat) (mm : Int) (B : Option Addr) (lb k : Nat) (hn : n ≤ xs.length) :
    Calls Try.prog 12 #[.pointer (some ⟨T, 0, none⟩), refV cap xs.length safe A2 c2, .agg #[.int .i64 3, .int .i64 (n : Int), .int .i64 mm, .slice B lb k]] w fun e w' => Did w w' T cap (xs.take n) (min safe n) e := by
  have hl := hr.len
  have hsl := h.safe
  have lt := h.lt
  obtain ⟨W, hW⟩ : ∃ W, (((w.alloc (.cells #[.int .i64 cap, .slice A2 xs.length c2, .int .i64 safe] 29)).alloc (.cells #[.int .i64 3, .int .i64 (n : Int), .int .i64 mm, .slice B lb k] 32)).alloc (.cells #[.int .i64 0, .slice none 0 0, .int .i64 0] 29)) = W := ⟨_, rfl⟩
  have bx := boxes_new (cap := cap) (n := xs.length) (safe := safe) (A := A2) (c := c2) (vb := 3) (nn := (n : Int)) (mm := mm) (B := B) (lb := lb) (k := k) w
  rw [hW] at bx
  have bW : Below w.heap.size w W := by rw [← hW]; exact ((below_new w _).alloc (by simp) _).alloc (by simp; omega) _
  have H0 := hid h
  have R0 := hid hr
  have HT := hid (h.below bW)
  have HR := hid (hr.keep (Rest.below bW))
  have HW := hid hW
  have BW := hid bW
  have BX0 := hid bx
  clear h hr hW bW bx
  go_enter Try.func12, Try.ntmps12
  go_upto_region 1 with (fail)
  have hw := HW.out
  rw [hw]
  obtain ⟨G, hG⟩ : ∃ G, w.heap.size = G := ⟨_, rfl⟩
  have BX := BX0
  rw [hG] at BX lt ⊢
  have HGG := hid hG
  have c0 := BX.out.d0
  clear hw hG HW BX0
  have d1 := BX.out.d1
  go_wp2_with fail
  refine (cut_any HT.out n hn).mono ?_
  rintro e w1 ⟨rfl, h1, t1⟩
  have bx1 := BX.out.keep t1 (by intro x hx; simp at hx; omega)
  have R1 := hid (HR.out.keep (rest_touch t1))
  have H1 := hid h1
  have T1 := hid t1
  have BX1 := hid bx1
  have e1 := bx1.d1
  have r0 := bx1.r0
  have r1 := bx1.r1
  have r2 := bx1.r2
  have z0 := bx1.z0
  have z1 := bx1.z1
  have z2 := bx1.z2
  have zf0 := bx1.zf 0
  have zf1 := bx1.zf 1
  have zf2 := bx1.zf 2
  have hnc : n ≤ c2 := by have := R1.out.2.2.2.2.1; omega
  have g1 : decide ((n : Int) < 0) = false := by simp
  have g2 : decide (xs.length < n) = false := by simp; omega
  have hnci : (n : Int) ≤ (c2 : Int) := by omega
  have T2 := hid ((Touch.of_below BW.out [T]).trans T1.out (by simp))
  clear h1 t1 bx1 c0 d1
  have RT := hid (ref_take R1.out n hn)
  go_upto_region 22 with (fail)
  go_region
  all_goals go_wp2_with fail
  case' inl =>
    have hmin : min safe n = n := by omega
    have fin := did_end H1.out RT.out BX1.out.z (by rw [HGG.out]; exact Nat.le_refl _) (by rw [HGG.out]; exact lt) T2.out n (by simp; omega)
    rw [hmin] at fin ⊢
  case' inr =>
    have hmin : min safe n = safe := by omega
    have fin := did_end H1.out RT.out BX1.out.z (by rw [HGG.out]; exact Nat.le_refl _) (by rw [HGG.out]; exact lt) T2.out n (by simp; omega)
    rw [hmin] at fin ⊢
  all_goals
    refine bodyPost_ret (results_cell_tmp rfl _ _ (G + 1 + 1) 29 _ (0, 0) _ rfl fin.1 Try.underlying29 rfl (by kernel_rfl)) rfl ?_
    exact did_drew fin.2
end Go.Proofs.Ythieemfcmehdiaa
