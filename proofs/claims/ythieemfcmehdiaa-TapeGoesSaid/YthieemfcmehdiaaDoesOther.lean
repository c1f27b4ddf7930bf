/- does: any other verb. -/
import Derived.Test.YthieemfcmehdiaaDoesBase
namespace Go.Proofs.Ythieemfcmehdiaa
open Go.RowKit
set_option linter.unusedSimpArgs false
set_option linter.unusedVariables false
set_option maxHeartbeats 8000000 in
set_option maxRecDepth 100000 in
theorem does_other {w : World} {T cap safe c c2 : Nat} {xs : List Thing} {A A2 : Option Addr} (h : IsTape w T cap xs safe A c) (hr : RefIs w T cap xs safe A2 c2) (vb nn mm : Int) (B : Option Addr) (lb k : Nat) (n0 : vb ≠ 0) (n1 : vb ≠ 1) (n2 : vb ≠ 2) (n3 : vb ≠ 3) (n4 : vb ≠ 4) :
    Calls Try.prog 12 #[.pointer (some ⟨T, 0, none⟩), refV cap xs.length safe A2 c2, .agg #[.int .i64 vb, .int .i64 nn, .int .i64 mm, .slice B lb k]] w fun e w' => Did w w' T cap xs safe e := by
  have e0 : (vb == 0) = false := by simpa using n0
  have e1 : (vb == 1) = false := by simpa using n1
  have e2 : (vb == 2) = false := by simpa using n2
  have e3 : (vb == 3) = false := by simpa using n3
  have e4 : (vb == 4) = false := by simpa using n4
  have hl := hr.len
  have hsl := h.safe
  have lt := h.lt
  obtain ⟨W, hW⟩ : ∃ W, (((w.alloc (.cells #[.int .i64 cap, .slice A2 xs.length c2, .int .i64 safe] 29)).alloc (.cells #[.int .i64 vb, .int .i64 nn, .int .i64 mm, .slice B lb k] 32)).alloc (.cells #[.int .i64 0, .slice none 0 0, .int .i64 0] 29)) = W := ⟨_, rfl⟩
  have bx := boxes_new (cap := cap) (n := xs.length) (safe := safe) (A := A2) (c := c2) (vb := vb) (nn := nn) (mm := mm) (B := B) (lb := lb) (k := k) w
  rw [hW] at bx
  have bW : Below w.heap.size w W := by rw [← hW]; exact ((below_new w _).alloc (by simp) _).alloc (by simp; omega) _
  have H0 := hid h
  have R0 := hid hr
  have HT := hid (h.below bW)
  have HR := hid (hr.keep (Rest.below bW))
  have HW := hid hW
  have BW := hid bW
  have BX0 := hid bx
  clear h hr hW bW bx
  go_enter Try.func12, Try.ntmps12
  go_upto_region 1 with (fail)
  have hw := HW.out
  rw [hw]
  obtain ⟨G, hG⟩ : ∃ G, w.heap.size = G := ⟨_, rfl⟩
  have BX := BX0
  rw [hG] at BX lt ⊢
  have HGG := hid hG
  have c0 := BX.out.d0
  clear hw hG HW BX0
  have r0 := BX.out.r0
  have r1 := BX.out.r1
  have r2 := BX.out.r2
  have z0 := BX.out.z0
  have z1 := BX.out.z1
  have z2 := BX.out.z2
  have zf0 := BX.out.zf 0
  have zf1 := BX.out.zf 1
  have zf2 := BX.out.zf 2
  go_wp2_with fail
  have fin := did_end HT.out HR.out BX.out.z (by rw [HGG.out]; exact Nat.le_refl _) (by rw [HGG.out]; exact lt) (Touch.of_below BW.out [T]) xs.length rfl
  refine bodyPost_ret (results_cell_tmp rfl _ _ (G + 1 + 1) 29 _ (0, 0) _ rfl fin.1 Try.underlying29 rfl (by kernel_rfl)) rfl ?_
  exact fin.2
end Go.Proofs.Ythieemfcmehdiaa
