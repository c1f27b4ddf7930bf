/- does: Mark. -/
import Derived.Test.YthieemfcmehdiaaDoesBase
import Derived.Test.YthieemfcmehdiaaLast
namespace Go.Proofs.Ythieemfcmehdiaa
open Go.RowKit
set_option linter.unusedSimpArgs false
set_option linter.unusedVariables false
set_option maxHeartbeats 8000000 in
set_option maxRecDepth 100000 in
theorem does_mark_yes {w : World} {T cap safe c c2 : Nat} {xs : List Thing} {A A2 : Option Addr} (h : IsTape w T cap xs safe A c) (hr : RefIs w T cap xs safe A2 c2) (nn mm : Int) (B : Option Addr) (lb k : Nat) (hroom : used xs + 8 ≤ cap) :
    Calls Try.prog 12 #[.pointer (some ⟨T, 0, none⟩), refV cap xs.length safe A2 c2, .agg #[.int .i64 1, .int .i64 nn, .int .i64 mm, .slice B lb k]] w fun e w' => Did w w' T cap (xs ++ [(true, [])]) safe e := by
  have hl := hr.len
  have hsl := h.safe
  have lt := h.lt
  obtain ⟨W, hW⟩ : ∃ W, (((w.alloc (.cells #[.int .i64 cap, .slice A2 xs.length c2, .int .i64 safe] 29)).alloc (.cells #[.int .i64 1, .int .i64 nn, .int .i64 mm, .slice B lb k] 32)).alloc (.cells #[.int .i64 0, .slice none 0 0, .int .i64 0] 29)) = W := ⟨_, rfl⟩
  have bx := boxes_new (cap := cap) (n := xs.length) (safe := safe) (A := A2) (c := c2) (vb := 1) (nn := nn) (mm := mm) (B := B) (lb := lb) (k := k) w
  rw [hW] at bx
  have bW : Below w.heap.size w W := by rw [← hW]; exact ((below_new w _).alloc (by simp) _).alloc (by simp; omega) _
  have H0 := hid h
  have R0 := hid hr
  have HT := hid (h.below bW)
  have HR := hid (hr.keep (Rest.below bW))
  have HW := hid hW
  have BW := hid bW
  have BX0 := hid bx
  clear h hr hW bW bx
  go_enter Try.func12, Try.ntmps12
  go_upto_region 1 with (fail)
  have hw := HW.out
  rw [hw]
  obtain ⟨G, hG⟩ : ∃ G, w.heap.size = G := ⟨_, rfl⟩
  have BX := BX0
  rw [hG] at BX lt ⊢
  have HGG := hid hG
  have c0 := BX.out.d0
  clear hw hG HW BX0
  have r0 := BX.out.r0
  have r1 := BX.out.r1
  have r2 := BX.out.r2
  have hTW : T < W.heap.size := HT.out.lt
  go_wp2_with fail
  refine (put_ref_yes HR.out hTW true none 0 [] (bytesOut_nil W T) (by simpa using hroom)).mono ?_
  rintro e w1 ⟨A9, c9, rfl, p1, b1⟩
  obtain ⟨mlen, hml⟩ : ∃ mlen, xs.length + 1 = mlen := ⟨_, rfl⟩
  rw [hml]
  have HML := hid hml
  have bx1 := BX.out.keep (Touch.of_below b1 []) (by simp)
  have H1 := hid (HT.out.below b1)
  have P1 := hid p1
  have B1 := hid (below_trans BW.out b1)
  have BX1 := hid bx1
  clear p1 b1 bx1 r0 r1 r2 c0 hml
  go_upto_region 14 with (fail)
  have bb := below_new w1 (.cells #[.int .i64 cap, .slice A9 mlen c9, .int .i64 safe] 29)
  have hb2 := hid (below_trans B1.out bb)
  have h2 := H1.out.below bb
  have p2 := P1.out.keep (Rest.below bb)
  have bx2 := BX1.out.keep (Touch.of_below bb []) (by simp)
  have q := block_new w1 (.cells #[.int .i64 cap, .slice A9 mlen c9, .int .i64 safe] 29)
  have hT1 : T < w1.heap.size := H1.out.lt
  have hgG : G + 1 + 1 < w1.heap.size := (Array.getElem?_eq_some_iff.1 BX1.out.z).1
  obtain ⟨W2, hW2⟩ : ∃ n, w1.alloc (.cells #[.int .i64 cap, .slice A9 mlen c9, .int .i64 safe] 29) = n := ⟨_, rfl⟩
  rw [hW2] at hb2 h2 p2 bx2 q ⊢
  obtain ⟨g, hg⟩ : ∃ g, w1.heap.size = g := ⟨_, rfl⟩
  rw [hg] at q hT1 hgG ⊢
  have q0 : W2.cell? ⟨g, 0, none⟩ = some (.int .i64 cap) := (cell_of_row W2 _ 0 _ _ _ q).trans rfl
  have q1 : W2.cell? ⟨g, 1, none⟩ = some (.slice A9 mlen c9) := (cell_of_row W2 _ 1 _ _ _ q).trans rfl
  have q2 : W2.cell? ⟨g, 2, none⟩ = some (.int .i64 safe) := (cell_of_row W2 _ 2 _ _ _ q).trans rfl
  have H2 := hid (h2.below (Below.refl W2.heap.size W2).drew)
  have P2 := hid p2
  have BX2 := hid bx2
  have Q2 := hid q
  clear bb h2 p2 bx2 q hW2 hg
  refine region_last 7 (fun w' => w'.cell? ⟨g, 0, none⟩ = some (.int .i64 cap) ∧ w'.cell? ⟨g, 1, none⟩ = some (.slice A9 mlen c9) ∧ w'.cell? ⟨g, 2, none⟩ = some (.int .i64 safe)) (by kernel_rfl) ?_
  have hS : W2.drew.cell? ⟨g, 0, none⟩ = some (.int .i64 cap) ∧ W2.drew.cell? ⟨g, 1, none⟩ = some (.slice A9 mlen c9) ∧ W2.drew.cell? ⟨g, 2, none⟩ = some (.int .i64 safe) := ⟨q0, q1, q2⟩
  refine take_last (i := 0) (v := ?_) rfl (by kernel_rfl) (by kernel_rfl) (by kernel_rfl) (by kernel_rfl) (fun _ _ _ h => h) (Or.inl ⟨by rfl, ?_⟩) hS ?_
  rotate_left
  · (rintro w ⟨s1, s2, s3⟩; go_simp; try with_reducible rfl)
  simp only [Act.put, List.setIfInBounds_toArray, List.set_cons_zero, List.set_cons_succ]
  refine take_last (i := 1) (v := ?_) rfl (by kernel_rfl) (by kernel_rfl) (by kernel_rfl) (by kernel_rfl) (fun _ _ _ h => h) (Or.inl ⟨by rfl, ?_⟩) hS ?_
  rotate_left
  · (rintro w ⟨s1, s2, s3⟩; go_simp; try with_reducible rfl)
  simp only [Act.put, List.setIfInBounds_toArray, List.set_cons_zero, List.set_cons_succ]
  refine take_last (i := 4) (v := ?_) rfl (by kernel_rfl) (by kernel_rfl) (by kernel_rfl) (by kernel_rfl) (fun _ _ _ h => h) (Or.inl ⟨by rfl, ?_⟩) hS ?_
  rotate_left
  · (rintro w ⟨s1, s2, s3⟩; go_simp; try with_reducible rfl)
  simp only [Act.put, List.setIfInBounds_toArray, List.set_cons_zero, List.set_cons_succ]
  refine one_last (i := 2) (by kernel_rfl) ?_
  refine wpOp_step rfl (fun K hK => ?_)
  have HK := hid hK
  clear hK
  go_simp
  refine (mark_yes H2.out (by simpa using hroom)).mono ?_
  rintro e w3 ⟨rfl, A', c', h3, t3⟩
  have T3 : Hid (Touch [T] W2.drew w3) := hid t3
  have H3 : Hid (IsTape w3 T cap (xs ++ [(true, [])]) safe A' c') := hid h3
  have q3 := (T3.out.block g (Array.getElem?_eq_some_iff.1 Q2.out).1 (by simp; omega)).trans Q2.out
  have p0 : w3.cell? ⟨g, 0, none⟩ = some (.int .i64 cap) := (cell_of_row w3 _ 0 _ _ _ q3).trans rfl
  have p1 : w3.cell? ⟨g, 1, none⟩ = some (.slice A9 mlen c9) := (cell_of_row w3 _ 1 _ _ _ q3).trans rfl
  have p2 : w3.cell? ⟨g, 2, none⟩ = some (.int .i64 safe) := (cell_of_row w3 _ 2 _ _ _ q3).trans rfl
  have bx3 := BX2.out.keep (Touch.drew (Touch.refl [] W2)) (by simp)
  have bx4 := bx3.keep T3.out (by intro x hx; simp at hx; omega)
  have BX4 := hid bx4
  clear t3 q3 bx3 bx4
  clear h3
  refine HK.out _ _ ⟨fun _ => ⟨p0, p1, p2⟩, ?_⟩
  clear HK K
  try simp only [Act.put, List.setIfInBounds_toArray, List.set_cons_zero, List.set_cons_succ]
  have hS : w3.cell? ⟨g, 0, none⟩ = some (.int .i64 cap) ∧ w3.cell? ⟨g, 1, none⟩ = some (.slice A9 mlen c9) ∧ w3.cell? ⟨g, 2, none⟩ = some (.int .i64 safe) := ⟨p0, p1, p2⟩
  refine take_last (i := 3) (v := ?_) rfl (by kernel_rfl) (by kernel_rfl) (by kernel_rfl) (by kernel_rfl) (fun _ _ _ h => h) (Or.inl ⟨by rfl, ?_⟩) hS ?_
  rotate_left
  · (rintro w ⟨s1, s2, s3⟩; go_simp; try with_reducible rfl)
  simp only [Act.put, List.setIfInBounds_toArray, List.set_cons_zero, List.set_cons_succ]
  refine take_last (i := 5) (v := ?_) rfl (by kernel_rfl) (by kernel_rfl) (by kernel_rfl) (by kernel_rfl) (fun _ _ _ h => h) (Or.inl ⟨by rfl, ?_⟩) hS ?_
  rotate_left
  · (rintro w ⟨s1, s2, s3⟩; go_simp; try with_reducible rfl)
  simp only [Act.put, List.setIfInBounds_toArray, List.set_cons_zero, List.set_cons_succ]
  have z0 := BX4.out.z0
  have z1 := BX4.out.z1
  have z2 := BX4.out.z2
  have zf0 := BX4.out.zf 0
  have zf1 := BX4.out.zf 1
  have zf2 := BX4.out.zf 2
  refine one_last (i := 6) (by kernel_rfl) ?_
  refine wpOp_step rfl (fun K hK => ?_)
  have HK := hid hK
  clear hK
  go_simp
  have tf := three_touch w3 (G + 1 + 1) (.int .i64 cap) (.slice A9 mlen c9) (.int .i64 safe)
  have lg := World.block_lt_of_cell? w3 _ p0
  have f0 := (World.cell?_of_block (w := w3) (a := ⟨g, 0, none⟩) (tf.block g lg (by simp; omega))).trans p0
  have f1 := (World.cell?_of_block (w := w3) (a := ⟨g, 1, none⟩) (tf.block g lg (by simp; omega))).trans p1
  have f2 := (World.cell?_of_block (w := w3) (a := ⟨g, 2, none⟩) (tf.block g lg (by simp; omega))).trans p2
  clear tf lg
  refine HK.out _ _ ⟨fun _ => ⟨f0, f1, f2⟩, ?_⟩
  clear HK K
  try simp only [Act.put, List.setIfInBounds_toArray, List.set_cons_zero, List.set_cons_succ]
  refine one_last (i := 7) (by kernel_rfl) ?_
  refine wpOp_step rfl (fun K hK => ?_)
  have HK := hid hK
  clear hK
  go_simp
  refine HK.out _ _ ⟨fun h => absurd rfl h, ?_⟩
  clear HK K
  try simp only [Act.put, List.setIfInBounds_toArray, List.set_cons_zero, List.set_cons_succ]
  refine done_last (by kernel_rfl) ?_ _
  clear f0 f1 f2 p0 p1 p2 z0 z1 z2 zf0 zf1 zf2 hS q0 q1 q2
  go_wp2_with fail
  have T4 := ((Touch.of_below hb2.out [T]).trans (Touch.drew (Touch.refl [T] W2)) (by simp)).trans T3.out (by simp)
  have fin := did_end H3.out (P2.out.keep ((Rest.below (Below.refl W2.heap.size W2).drew).trans (by simp) (rest_touch T3.out))) BX4.out.z (by rw [HGG.out]; exact Nat.le_refl _) (by rw [HGG.out]; exact lt) T4 mlen (by have := HML.out; simp; omega)
  refine bodyPost_ret (results_cell_tmp rfl _ _ (G + 1 + 1) 29 _ (0, 0) _ rfl fin.1 Try.underlying29 rfl (by kernel_rfl)) rfl ?_
  exact fin.2
set_option maxHeartbeats 8000000 in
set_option maxRecDepth 100000 in
theorem does_mark_no {w : World} {T cap safe c c2 : Nat} {xs : List Thing} {A A2 : Option Addr} (h : IsTape w T cap xs safe A c) (hr : RefIs w T cap xs safe A2 c2) (nn mm : Int) (B : Option Addr) (lb k : Nat) (hroom : cap < used xs + 8) :
    Calls Try.prog 12 #[.pointer (some ⟨T, 0, none⟩), refV cap xs.length safe A2 c2, .agg #[.int .i64 1, .int .i64 nn, .int .i64 mm, .slice B lb k]] w fun e w' => Did w w' T cap xs safe e := by
  have hl := hr.len
  have hsl := h.safe
  have lt := h.lt
  obtain ⟨W, hW⟩ : ∃ W, (((w.alloc (.cells #[.int .i64 cap, .slice A2 xs.length c2, .int .i64 safe] 29)).alloc (.cells #[.int .i64 1, .int .i64 nn, .int .i64 mm, .slice B lb k] 32)).alloc (.cells #[.int .i64 0, .slice none 0 0, .int .i64 0] 29)) = W := ⟨_, rfl⟩
  have bx := boxes_new (cap := cap) (n := xs.length) (safe := safe) (A := A2) (c := c2) (vb := 1) (nn := nn) (mm := mm) (B := B) (lb := lb) (k := k) w
  rw [hW] at bx
  have bW : Below w.heap.size w W := by rw [← hW]; exact ((below_new w _).alloc (by simp) _).alloc (by simp; omega) _
  have H0 := hid h
  have R0 := hid hr
  have HT := hid (h.below bW)
  have HR := hid (hr.keep (Rest.below bW))
  have HW := hid hW
  have BW := hid bW
  have BX0 := hid bx
  clear h hr hW bW bx
  go_enter Try.func12, Try.ntmps12
  go_upto_region 1 with (fail)
  have hw := HW.out
  rw [hw]
  obtain ⟨G, hG⟩ : ∃ G, w.heap.size = G := ⟨_, rfl⟩
  have BX := BX0
  rw [hG] at BX lt ⊢
  have HGG := hid hG
  have c0 := BX.out.d0
  clear hw hG HW BX0
  have r0 := BX.out.r0
  have r1 := BX.out.r1
  have r2 := BX.out.r2
  have hTW : T < W.heap.size := HT.out.lt
  go_wp2_with fail
  refine (put_ref_no HR.out hTW true none 0 [] (bytesOut_nil W T) (by decide) (by simpa using hroom)).mono ?_
  rintro e w1 ⟨rfl, b1⟩
  have p1 := HR.out.keep (Rest.below b1)
  obtain ⟨A9, hA9⟩ : ∃ A9, A2 = A9 := ⟨_, rfl⟩
  obtain ⟨c9, hc9⟩ : ∃ c9, c2 = c9 := ⟨_, rfl⟩
  rw [hA9, hc9] at p1 ⊢
  obtain ⟨mlen, hml⟩ : ∃ mlen, xs.length = mlen := ⟨_, rfl⟩
  rw [hml]
  have HML := hid hml
  have bx1 := BX.out.keep (Touch.of_below b1 []) (by simp)
  have H1 := hid (HT.out.below b1)
  have P1 := hid p1
  have B1 := hid (below_trans BW.out b1)
  have BX1 := hid bx1
  clear p1 b1 bx1 r0 r1 r2 c0 hml
  go_upto_region 14 with (fail)
  have bb := below_new w1 (.cells #[.int .i64 cap, .slice A9 mlen c9, .int .i64 safe] 29)
  have hb2 := hid (below_trans B1.out bb)
  have h2 := H1.out.below bb
  have p2 := P1.out.keep (Rest.below bb)
  have bx2 := BX1.out.keep (Touch.of_below bb []) (by simp)
  have q := block_new w1 (.cells #[.int .i64 cap, .slice A9 mlen c9, .int .i64 safe] 29)
  have hT1 : T < w1.heap.size := H1.out.lt
  have hgG : G + 1 + 1 < w1.heap.size := (Array.getElem?_eq_some_iff.1 BX1.out.z).1
  obtain ⟨W2, hW2⟩ : ∃ n, w1.alloc (.cells #[.int .i64 cap, .slice A9 mlen c9, .int .i64 safe] 29) = n := ⟨_, rfl⟩
  rw [hW2] at hb2 h2 p2 bx2 q ⊢
  obtain ⟨g, hg⟩ : ∃ g, w1.heap.size = g := ⟨_, rfl⟩
  rw [hg] at q hT1 hgG ⊢
  have q0 : W2.cell? ⟨g, 0, none⟩ = some (.int .i64 cap) := (cell_of_row W2 _ 0 _ _ _ q).trans rfl
  have q1 : W2.cell? ⟨g, 1, none⟩ = some (.slice A9 mlen c9) := (cell_of_row W2 _ 1 _ _ _ q).trans rfl
  have q2 : W2.cell? ⟨g, 2, none⟩ = some (.int .i64 safe) := (cell_of_row W2 _ 2 _ _ _ q).trans rfl
  have H2 := hid (h2.below (Below.refl W2.heap.size W2).drew)
  have P2 := hid p2
  have BX2 := hid bx2
  have Q2 := hid q
  clear bb h2 p2 bx2 q hW2 hg
  refine region_last 7 (fun w' => w'.cell? ⟨g, 0, none⟩ = some (.int .i64 cap) ∧ w'.cell? ⟨g, 1, none⟩ = some (.slice A9 mlen c9) ∧ w'.cell? ⟨g, 2, none⟩ = some (.int .i64 safe)) (by kernel_rfl) ?_
  have hS : W2.drew.cell? ⟨g, 0, none⟩ = some (.int .i64 cap) ∧ W2.drew.cell? ⟨g, 1, none⟩ = some (.slice A9 mlen c9) ∧ W2.drew.cell? ⟨g, 2, none⟩ = some (.int .i64 safe) := ⟨q0, q1, q2⟩
  refine take_last (i := 0) (v := ?_) rfl (by kernel_rfl) (by kernel_rfl) (by kernel_rfl) (by kernel_rfl) (fun _ _ _ h => h) (Or.inl ⟨by rfl, ?_⟩) hS ?_
  rotate_left
  · (rintro w ⟨s1, s2, s3⟩; go_simp; try with_reducible rfl)
  simp only [Act.put, List.setIfInBounds_toArray, List.set_cons_zero, List.set_cons_succ]
  refine take_last (i := 1) (v := ?_) rfl (by kernel_rfl) (by kernel_rfl) (by kernel_rfl) (by kernel_rfl) (fun _ _ _ h => h) (Or.inl ⟨by rfl, ?_⟩) hS ?_
  rotate_left
  · (rintro w ⟨s1, s2, s3⟩; go_simp; try with_reducible rfl)
  simp only [Act.put, List.setIfInBounds_toArray, List.set_cons_zero, List.set_cons_succ]
  refine take_last (i := 4) (v := ?_) rfl (by kernel_rfl) (by kernel_rfl) (by kernel_rfl) (by kernel_rfl) (fun _ _ _ h => h) (Or.inl ⟨by rfl, ?_⟩) hS ?_
  rotate_left
  · (rintro w ⟨s1, s2, s3⟩; go_simp; try with_reducible rfl)
  simp only [Act.put, List.setIfInBounds_toArray, List.set_cons_zero, List.set_cons_succ]
  refine one_last (i := 2) (by kernel_rfl) ?_
  refine wpOp_step rfl (fun K hK => ?_)
  have HK := hid hK
  clear hK
  go_simp
  refine (mark_no H2.out (by simpa using hroom)).mono ?_
  rintro e w3 ⟨rfl, b3⟩
  have T3 : Hid (Touch [T] W2.drew w3) := hid (Touch.of_below b3 [T])
  have H3 : Hid (IsTape w3 T cap xs safe A c) := hid (H2.out.below b3)
  have t3 := b3
  have q3 := (T3.out.block g (Array.getElem?_eq_some_iff.1 Q2.out).1 (by simp; omega)).trans Q2.out
  have p0 : w3.cell? ⟨g, 0, none⟩ = some (.int .i64 cap) := (cell_of_row w3 _ 0 _ _ _ q3).trans rfl
  have p1 : w3.cell? ⟨g, 1, none⟩ = some (.slice A9 mlen c9) := (cell_of_row w3 _ 1 _ _ _ q3).trans rfl
  have p2 : w3.cell? ⟨g, 2, none⟩ = some (.int .i64 safe) := (cell_of_row w3 _ 2 _ _ _ q3).trans rfl
  have bx3 := BX2.out.keep (Touch.drew (Touch.refl [] W2)) (by simp)
  have bx4 := bx3.keep T3.out (by intro x hx; simp at hx; omega)
  have BX4 := hid bx4
  clear t3 q3 bx3 bx4
  clear b3
  refine HK.out _ _ ⟨fun _ => ⟨p0, p1, p2⟩, ?_⟩
  clear HK K
  try simp only [Act.put, List.setIfInBounds_toArray, List.set_cons_zero, List.set_cons_succ]
  have hS : w3.cell? ⟨g, 0, none⟩ = some (.int .i64 cap) ∧ w3.cell? ⟨g, 1, none⟩ = some (.slice A9 mlen c9) ∧ w3.cell? ⟨g, 2, none⟩ = some (.int .i64 safe) := ⟨p0, p1, p2⟩
  refine take_last (i := 3) (v := ?_) rfl (by kernel_rfl) (by kernel_rfl) (by kernel_rfl) (by kernel_rfl) (fun _ _ _ h => h) (Or.inl ⟨by rfl, ?_⟩) hS ?_
  rotate_left
  · (rintro w ⟨s1, s2, s3⟩; go_simp; try with_reducible rfl)
  simp only [Act.put, List.setIfInBounds_toArray, List.set_cons_zero, List.set_cons_succ]
  refine take_last (i := 5) (v := ?_) rfl (by kernel_rfl) (by kernel_rfl) (by kernel_rfl) (by kernel_rfl) (fun _ _ _ h => h) (Or.inl ⟨by rfl, ?_⟩) hS ?_
  rotate_left
  · (rintro w ⟨s1, s2, s3⟩; go_simp; try with_reducible rfl)
  simp only [Act.put, List.setIfInBounds_toArray, List.set_cons_zero, List.set_cons_succ]
  have z0 := BX4.out.z0
  have z1 := BX4.out.z1
  have z2 := BX4.out.z2
  have zf0 := BX4.out.zf 0
  have zf1 := BX4.out.zf 1
  have zf2 := BX4.out.zf 2
  refine one_last (i := 6) (by kernel_rfl) ?_
  refine wpOp_step rfl (fun K hK => ?_)
  have HK := hid hK
  clear hK
  go_simp
  have tf := three_touch w3 (G + 1 + 1) (.int .i64 cap) (.slice A9 mlen c9) (.int .i64 safe)
  have lg := World.block_lt_of_cell? w3 _ p0
  have f0 := (World.cell?_of_block (w := w3) (a := ⟨g, 0, none⟩) (tf.block g lg (by simp; omega))).trans p0
  have f1 := (World.cell?_of_block (w := w3) (a := ⟨g, 1, none⟩) (tf.block g lg (by simp; omega))).trans p1
  have f2 := (World.cell?_of_block (w := w3) (a := ⟨g, 2, none⟩) (tf.block g lg (by simp; omega))).trans p2
  clear tf lg
  refine HK.out _ _ ⟨fun _ => ⟨f0, f1, f2⟩, ?_⟩
  clear HK K
  try simp only [Act.put, List.setIfInBounds_toArray, List.set_cons_zero, List.set_cons_succ]
  refine one_last (i := 7) (by kernel_rfl) ?_
  refine wpOp_step rfl (fun K hK => ?_)
  have HK := hid hK
  clear hK
  go_simp
  refine HK.out _ _ ⟨fun h => absurd rfl h, ?_⟩
  clear HK K
  try simp only [Act.put, List.setIfInBounds_toArray, List.set_cons_zero, List.set_cons_succ]
  refine done_last (by kernel_rfl) ?_ _
  clear f0 f1 f2 p0 p1 p2 z0 z1 z2 zf0 zf1 zf2 hS q0 q1 q2
  go_wp2_with fail
  have T4 := ((Touch.of_below hb2.out [T]).trans (Touch.drew (Touch.refl [T] W2)) (by simp)).trans T3.out (by simp)
  have fin := did_end H3.out (P2.out.keep ((Rest.below (Below.refl W2.heap.size W2).drew).trans (by simp) (rest_touch T3.out))) BX4.out.z (by rw [HGG.out]; exact Nat.le_refl _) (by rw [HGG.out]; exact lt) T4 mlen (HML.out)
  refine bodyPost_ret (results_cell_tmp rfl _ _ (G + 1 + 1) 29 _ (0, 0) _ rfl fin.1 Try.underlying29 rfl (by kernel_rfl)) rfl ?_
  exact fin.2
end Go.Proofs.Ythieemfcmehdiaa
