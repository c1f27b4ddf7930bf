/- does: Crash. -/
import Derived.Test.YthieemfcmehdiaaDoesBase
namespace Go.Proofs.Ythieemfcmehdiaa
open Go.RowKit
set_option linter.unusedSimpArgs false
set_option linter.unusedVariables false
set_option maxHeartbeats 8000000 in
set_option maxRecDepth 100000 in
theorem does_crash {w : World} {T cap safe c c2 : Nat} {xs : List Thing} {A A2 : Option Addr} (h : IsTape w T cap xs safe A c) (hr : RefIs w T cap xs safe A2 c2) (nn mm : Int) (B : Option Addr) (lb k : Nat) (n : Nat) (hn : crashN safe xs.length nn = n) (tl : List Thing) (htl : tailOf xs[n]? mm = tl) (Y : List Thing) (hY : xs.take n ++ tl = Y) :
    Calls Try.prog 12 #[.pointer (some ⟨T, 0, none⟩), refV cap xs.length safe A2 c2, .agg #[.int .i64 4, .int .i64 nn, .int .i64 mm, .slice B lb k]] w fun e w' => Did w w' T cap Y Y.length e := by
  have HN := hid hn
  have HTL := hid htl
  have HY := hid hY
  clear hn htl hY
  have hl := hr.len
  have hsl := h.safe
  have lt := h.lt
  obtain ⟨W, hW⟩ : ∃ W, (((w.alloc (.cells #[.int .i64 cap, .slice A2 xs.length c2, .int .i64 safe] 29)).alloc (.cells #[.int .i64 4, .int .i64 nn, .int .i64 mm, .slice B lb k] 32)).alloc (.cells #[.int .i64 0, .slice none 0 0, .int .i64 0] 29)) = W := ⟨_, rfl⟩
  have bx := boxes_new (cap := cap) (n := xs.length) (safe := safe) (A := A2) (c := c2) (vb := 4) (nn := nn) (mm := mm) (B := B) (lb := lb) (k := k) w
  rw [hW] at bx
  have bW : Below w.heap.size w W := by rw [← hW]; exact ((below_new w _).alloc (by simp) _).alloc (by simp; omega) _
  have H0 := hid h
  have R0 := hid hr
  have HT := hid (h.below bW)
  have HR := hid (hr.keep (Rest.below bW))
  have HW := hid hW
  have BW := hid bW
  have BX0 := hid bx
  clear h hr hW bW bx
  go_enter Try.func12, Try.ntmps12
  go_upto_region 1 with (fail)
  have hw := HW.out
  rw [hw]
  obtain ⟨G, hG⟩ : ∃ G, w.heap.size = G := ⟨_, rfl⟩
  have BX := BX0
  rw [hG] at BX lt ⊢
  have HGG := hid hG
  have c0 := BX.out.d0
  clear hw hG HW BX0
  have d1 := BX.out.d1
  have d2 := BX.out.d2
  go_wp2_with fail
  have q := crash_any HT.out nn mm n HN.out tl HTL.out
  rw [HY.out] at q
  refine q.mono ?_
  clear q
  rintro e w1 ⟨⟨v, rfl⟩, A', c', h1, t1⟩
  have bx1 := BX.out.keep t1 (by intro x hx; simp at hx; omega)
  have R1 := hid (HR.out.keep (rest_touch t1))
  have H1 := hid h1
  have T1 := hid t1
  have BX1 := hid bx1
  have e1 := bx1.d1
  have e2 := bx1.d2
  have r0 := bx1.r0
  have r1 := bx1.r1
  have r2 := bx1.r2
  have hT1 : T < w1.heap.size := h1.lt
  clear h1 t1 bx1 c0 d1 d2
  go_wp2_with fail
  have q := crash_ref R1.out hT1 nn mm n HN.out tl HTL.out
  rw [HY.out] at q
  refine q.mono ?_
  clear q
  rintro e w2 ⟨A9, c9, rfl, p2, b2⟩
  have bx2 := BX1.out.keep (Touch.of_below b2 []) (by simp)
  have H2 := hid (H1.out.below b2)
  have P2 := hid p2
  have T2 := hid (((Touch.of_below BW.out [T]).trans T1.out (by simp)).trans (Touch.of_below b2 [T]) (by simp))
  have BX2 := hid bx2
  have z0 := bx2.z0
  have z1 := bx2.z1
  have z2 := bx2.z2
  have zf0 := bx2.zf 0
  have zf1 := bx2.zf 1
  have zf2 := bx2.zf 2
  clear p2 b2 bx2 e1 e2 r0 r1 r2
  obtain ⟨m, hm⟩ : ∃ m, Y.length = m := ⟨_, rfl⟩
  have HM := hid hm
  rw [hm] at H2 P2 ⊢
  clear hm
  go_wp2_with fail
  have fin := did_end H2.out P2.out BX2.out.z (by rw [HGG.out]; exact Nat.le_refl _) (by rw [HGG.out]; exact lt) T2.out m HM.out
  refine bodyPost_ret (results_cell_tmp rfl _ _ (G + 1 + 1) 29 _ (0, 0) _ rfl fin.1 Try.underlying29 rfl (by kernel_rfl)) rfl ?_
  obtain rfl := HM.out
  exact fin.2
end Go.Proofs.Ythieemfcmehdiaa
