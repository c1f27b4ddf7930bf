/- put where there is room: both drawn regions by Last's law. -/
import Derived.Deep.RegionHeld
import Derived.Test.YthieemfcmehdiaaGrow
import Derived.Test.YthieemfcmehdiaaOlds
import Derived.Test.YthieemfcmehdiaaLast
namespace Go.Proofs.Ythieemfcmehdiaa
open Go.RowKit
set_option linter.unusedSimpArgs false
set_option linter.unusedVariables false
/-- where the row lies that an append made -/
def PutRow (w w' : World) (A : Option Addr) (n : Nat) (A' : Option Addr) (u v : Value) : Prop :=
  ∃ (g : Nat) (olds : List Value) (tail : Array Value), A' = some ⟨g, 0, none⟩ ∧ w.heap.size ≤ g ∧ olds.length = 2 * n ∧ (∀ ad, A = some ad → ∀ j v, olds[j]? = some v → w.cell? (ad.add j) = some v) ∧
    w'.heap[g]? = some (.cells ((olds ++ [u, v]).toArray ++ tail) 44 (0, 0))
set_option maxHeartbeats 4000000 in
set_option maxRecDepth 100000 in
theorem put_row {w : World} {T cap safe c : Nat} {xs : List Thing} {A : Option Addr} (h : IsTape w T cap xs safe A c) (b : Bool) (B : Option Addr) (k : Nat) (l : List UInt8) (hB : BytesOut w T B k l) (hr : used xs + (8 + l.length) ≤ cap) :
    Calls Try.prog 33 #[.pointer (some ⟨T, 0, none⟩), .agg #[.bool b, .slice B l.length k]] w fun e w' => e = .returned (.int .i64 0) ∧ ∃ A' c', IsTape w' T cap (xs ++ [(b, l)]) safe A' c' ∧ Touch [T] w w' ∧ PutRow w w' A xs.length A' (.bool b) (.slice B l.length k) := by
  have H := hid h
  have hf := h.fits
  have hs := h.small
  have HB := hid hB
  clear h hB
  go_enter Try.func33, Try.ntmps33
  go_wp2_with fail
  refine (size_any b B l.length k _ (by omega)).mono ?_
  rintro e w1 ⟨rfl, hw1⟩
  have b1 : Below w.heap.size w w1 := by rw [hw1]; exact (below_new _ _).alloc (by simp) _
  have x1 := block_new w (.cells #[.bool b, .slice B l.length k] 44)
  have x2 : w1.heap[w.heap.size]? = some (.cells #[.bool b, .slice B l.length k] 44) := by rw [hw1]; exact ((below_new (w.alloc _) _).block _ (by simp)).trans x1
  have H1 := hid (H.out.below b1)
  have HB1 := hid (HB.out.keep (Rest.below b1))
  have B1 := hid b1
  have X2 := hid x2
  have c90 := hid ((cell_of_row w1 w.heap.size 0 _ _ _ x2).trans rfl)
  have c91 := hid ((cell_of_row w1 w.heap.size 1 _ _ _ x2).trans rfl)
  clear hw1 b1 x1 x2
  go_wp2_with fail
  refine (room_any H1.out).mono ?_
  rintro e w2 ⟨rfl, md, hw2⟩
  have cm := Calm.of_drewN w1 md
  rw [← hw2] at cm
  have H2 := hid (H1.out.below (cm.below _))
  have HB2 := hid (HB1.out.keep (Rest.below (cm.below _)))
  have B2 := hid (B1.out.trans (cm.below _))
  have d0 := (cm.cell _).trans c90.out
  have d1 := (cm.cell _).trans c91.out
  have t1 := H2.out.c1
  have ft1 := H2.out.fr 1
  have LT := hid H2.out.lt
  have hroom := H2.out.room
  have SZ : Hid (w.heap.size < w2.heap.size) := hid (World.block_lt_of_cell? w2 _ d0)
  obtain ⟨r, hrr⟩ : ∃ r : Int, (cap : Int) - used xs = r := ⟨_, rfl⟩
  rw [hrr]
  have hlt : decide (r < 8 + (l.length : Int)) = false := by simp; omega
  obtain ⟨bx, hbx⟩ : ∃ bx, w.heap.size = bx := ⟨_, rfl⟩
  rw [hbx] at d0 d1 ⊢
  have HBX := hid hbx
  have hn8 : xs.length ≤ 2097152 := by have := used_len xs; omega
  have NIL : Hid (A = none → xs.length = 0) := hid (fun e => by have := H2.out.nil e; omega)
  obtain ⟨olds, ho1, ho2, ho3⟩ := olds_to H2.out.items xs.length (Nat.le_refl _)
  have HO3 := hid ho3
  have TBX : Hid (T < bx) := hid (by rw [← hbx]; exact H.out.lt)
  have HO1 := hid ho1
  have HO2 := hid ho2
  have t1a := cell_past (.cells #[.bool b, .slice B l.length k] 44) t1
  clear hw2 cm hrr hbx H1 HB1 B1 c90 c91 X2 ho1 ho2 ho3
  go_wp2
  refine region_last 21 (fun w' => w'.cell? ⟨T, 1, none⟩ = some (.slice A xs.length c) ∧ w'.cell? ⟨bx, 0, none⟩ = some (.bool b) ∧ w'.cell? ⟨bx, 1, none⟩ = some (.slice B l.length k)) (by kernel_rfl) ?_
  have hS : w2.drew.cell? ⟨T, 1, none⟩ = some (.slice A xs.length c) ∧ w2.drew.cell? ⟨bx, 0, none⟩ = some (.bool b) ∧ w2.drew.cell? ⟨bx, 1, none⟩ = some (.slice B l.length k) := ⟨t1, d0, d1⟩
  refine take_last (i := 0) (v := ?_) rfl (by kernel_rfl) (by kernel_rfl) (by kernel_rfl) (by kernel_rfl) (fun _ _ _ h => h) (Or.inl ⟨by rfl, ?_⟩) hS ?_
  rotate_left
  · (rintro w ⟨s1, s2, s3⟩; go_simp; try with_reducible rfl)
  simp only [Act.put, List.setIfInBounds_toArray, List.set_cons_zero, List.set_cons_succ]
  refine take_last (i := 1) (v := ?_) rfl (by kernel_rfl) (by kernel_rfl) (by kernel_rfl) (by kernel_rfl) (fun _ _ _ h => h) (Or.inl ⟨by rfl, ?_⟩) hS ?_
  rotate_left
  · (rintro w ⟨s1, s2, s3⟩; go_simp; try with_reducible rfl)
  simp only [Act.put, List.setIfInBounds_toArray, List.set_cons_zero, List.set_cons_succ]
  refine take_last (i := 2) (v := ?_) rfl (by kernel_rfl) (by kernel_rfl) (by kernel_rfl) (by kernel_rfl) (fun _ _ _ h => h) (Or.inl ⟨by rfl, ?_⟩) hS ?_
  rotate_left
  · (rintro w ⟨s1, s2, s3⟩; go_simp; try with_reducible rfl)
  simp only [Act.put, List.setIfInBounds_toArray, List.set_cons_zero, List.set_cons_succ]
  refine take_last (i := 3) (v := ?_) rfl (by kernel_rfl) (by kernel_rfl) (by kernel_rfl) (by kernel_rfl) (fun _ _ _ h => h) (Or.inl ⟨by rfl, ?_⟩) hS ?_
  rotate_left
  · (rintro w ⟨s1, s2, s3⟩; go_simp; try with_reducible rfl)
  simp only [Act.put, List.setIfInBounds_toArray, List.set_cons_zero, List.set_cons_succ]
  refine take_last (i := 4) (v := ?_) rfl (by kernel_rfl) (by kernel_rfl) (by kernel_rfl) (by kernel_rfl) (fun _ _ _ h => h) (Or.inl ⟨by rfl, ?_⟩) hS ?_
  rotate_left
  · (rintro w ⟨s1, s2, s3⟩; go_simp; try with_reducible rfl)
  simp only [Act.put, List.setIfInBounds_toArray, List.set_cons_zero, List.set_cons_succ]
  refine take_last (i := 5) (v := ?_) rfl (by kernel_rfl) (by kernel_rfl) (by kernel_rfl) (by kernel_rfl) (fun _ _ _ h => h) (Or.inl ⟨by rfl, ?_⟩) hS ?_
  rotate_left
  · (rintro w ⟨s1, s2, s3⟩; go_simp; try with_reducible rfl)
  simp only [Act.put, List.setIfInBounds_toArray, List.set_cons_zero, List.set_cons_succ]
  refine take_last (i := 6) (v := ?_) rfl (by kernel_rfl) (by kernel_rfl) (by kernel_rfl) (by kernel_rfl) (fun _ _ _ h => h) (Or.inl ⟨by rfl, ?_⟩) hS ?_
  rotate_left
  · (rintro w ⟨s1, s2, s3⟩; go_simp; try with_reducible rfl)
  simp only [Act.put, List.setIfInBounds_toArray, List.set_cons_zero, List.set_cons_succ]
  refine take_last (i := 7) (v := ?_) rfl (by kernel_rfl) (by kernel_rfl) (by kernel_rfl) (by kernel_rfl) (fun _ _ _ h => h) (Or.inl ⟨by rfl, ?_⟩) hS ?_
  rotate_left
  · (rintro w ⟨s1, s2, s3⟩; go_simp; try with_reducible rfl)
  simp only [Act.put, List.setIfInBounds_toArray, List.set_cons_zero, List.set_cons_succ]
  refine take_last (i := 8) (v := ?_) rfl (by kernel_rfl) (by kernel_rfl) (by kernel_rfl) (by kernel_rfl) (fun _ _ _ h => h) (Or.inl ⟨by rfl, ?_⟩) hS ?_
  rotate_left
  · (rintro w ⟨s1, s2, s3⟩; go_simp; try with_reducible rfl)
  simp only [Act.put, List.setIfInBounds_toArray, List.set_cons_zero, List.set_cons_succ]
  refine take_last (i := 9) (v := ?_) rfl (by kernel_rfl) (by kernel_rfl) (by kernel_rfl) (by kernel_rfl) (fun _ _ _ h => h) (Or.inl ⟨by rfl, ?_⟩) hS ?_
  rotate_left
  · (rintro w ⟨s1, s2, s3⟩; go_simp; try with_reducible rfl)
  simp only [Act.put, List.setIfInBounds_toArray, List.set_cons_zero, List.set_cons_succ]
  refine take_last (i := 10) (v := ?_) rfl (by kernel_rfl) (by kernel_rfl) (by kernel_rfl) (by kernel_rfl) (fun _ _ _ h => h) (Or.inl ⟨by rfl, ?_⟩) hS ?_
  rotate_left
  · (rintro w ⟨s1, s2, s3⟩; go_simp; try with_reducible rfl)
  simp only [Act.put, List.setIfInBounds_toArray, List.set_cons_zero, List.set_cons_succ]
  refine take_last (i := 11) (v := ?_) rfl (by kernel_rfl) (by kernel_rfl) (by kernel_rfl) (by kernel_rfl) (fun _ _ _ h => h) (Or.inl ⟨by rfl, ?_⟩) hS ?_
  rotate_left
  · (rintro w ⟨s1, s2, s3⟩; go_simp; try with_reducible rfl)
  simp only [Act.put, List.setIfInBounds_toArray, List.set_cons_zero, List.set_cons_succ]
  refine take_last (i := 12) (v := ?_) rfl (by kernel_rfl) (by kernel_rfl) (by kernel_rfl) (by kernel_rfl) (fun _ _ _ h => h) (Or.inl ⟨by rfl, ?_⟩) hS ?_
  rotate_left
  · (rintro w ⟨s1, s2, s3⟩; go_simp; try with_reducible rfl)
  simp only [Act.put, List.setIfInBounds_toArray, List.set_cons_zero, List.set_cons_succ]
  refine take_last (i := 13) (v := ?_) rfl (by kernel_rfl) (by kernel_rfl) (by kernel_rfl) (by kernel_rfl) (fun _ _ _ h => h) (Or.inl ⟨by rfl, ?_⟩) hS ?_
  rotate_left
  · (rintro w ⟨s1, s2, s3⟩; go_simp; try with_reducible rfl)
  simp only [Act.put, List.setIfInBounds_toArray, List.set_cons_zero, List.set_cons_succ]
  refine take_last (i := 14) (v := ?_) rfl (by kernel_rfl) (by kernel_rfl) (by kernel_rfl) (by kernel_rfl) (fun _ _ _ h => h) (Or.inl ⟨by rfl, ?_⟩) hS ?_
  rotate_left
  · (rintro w ⟨s1, s2, s3⟩; go_simp; try with_reducible rfl)
  simp only [Act.put, List.setIfInBounds_toArray, List.set_cons_zero, List.set_cons_succ]
  refine take_last (i := 15) (v := ?_) rfl (by kernel_rfl) (by kernel_rfl) (by kernel_rfl) (by kernel_rfl) (fun _ _ _ h => h) (Or.inl ⟨by rfl, ?_⟩) hS ?_
  rotate_left
  · (rintro w ⟨s1, s2, s3⟩; go_simp; try with_reducible rfl)
  simp only [Act.put, List.setIfInBounds_toArray, List.set_cons_zero, List.set_cons_succ]
  refine take_last (i := 16) (v := ?_) rfl (by kernel_rfl) (by kernel_rfl) (by kernel_rfl) (by kernel_rfl) (fun _ _ _ h => h) (Or.inl ⟨by rfl, ?_⟩) hS ?_
  rotate_left
  · (rintro w ⟨s1, s2, s3⟩; go_simp; try with_reducible rfl)
  simp only [Act.put, List.setIfInBounds_toArray, List.set_cons_zero, List.set_cons_succ]
  refine one_last (i := 17) (by kernel_rfl) ?_
  refine wpOp_step rfl (fun K hK => ?_)
  have HK := hid hK
  clear hK
  go_simp
  refine HK.out _ _ ⟨fun _ => ⟨t1a, cell_past _ d0, cell_past _ d1⟩, ?_⟩
  clear HK K
  try simp only [Act.put, List.setIfInBounds_toArray, List.set_cons_zero, List.set_cons_succ]
  refine one_last (i := 18) (by kernel_rfl) ?_
  refine wpOp_step rfl (fun K hK => ?_)
  have HK := hid hK
  clear hK
  refine step_append_item rfl (.tmp 29) (.tmp 31) rfl A xs.length hn8 (by simp [Act.eval]) NIL.out olds HO1.out ?_ ⟨w2.heap.size, 0, none⟩ b (.slice B l.length k) (by simp [Act.eval]) ?_ ?_ ?_
  · exact fun ad e j v hj => cell_past _ (HO2.out ad e j v hj)
  · rw [add_plain']; exact (cell_new w2.drew _ 44 (0, 0) 0).trans rfl
  · rw [add_plain']; exact (cell_new w2.drew _ 44 (0, 0) 1).trans rfl
  intro kk W1 hkk hW1
  have bW1 : Below w2.heap.size w2 W1 := by obtain ⟨tail, e⟩ := hW1; rw [e]; exact ((((Below.refl w2.heap.size w2).drew.alloc (by simp) _).drew).alloc (by simp) _)
  have hd1 := cell_below bW1 t1
  have hfd1 : W1.frozen? ⟨T, 1, none⟩ = false := (bW1.frozen (p := ⟨T, 1, none⟩) LT.out).trans ft1
  refine HK.out _ _ ⟨fun _ => ⟨hd1, cell_below bW1 d0, cell_below bW1 d1⟩, ?_⟩
  clear HK K
  try simp only [Act.put, List.setIfInBounds_toArray, List.set_cons_zero, List.set_cons_succ]
  refine one_last (i := 19) (by kernel_rfl) ?_
  refine wpOp_step rfl (fun K hK => ?_)
  have HK := hid hK
  clear hK
  go_simp
  refine HK.out _ _ ⟨fun _ => ⟨hd1, cell_below bW1 d0, cell_below bW1 d1⟩, ?_⟩
  clear HK K
  try simp only [Act.put, List.setIfInBounds_toArray, List.set_cons_zero, List.set_cons_succ]
  refine one_last (i := 20) (by kernel_rfl) ?_
  refine wpOp_step rfl (fun K hK => ?_)
  have HK := hid hK
  clear hK
  go_simp
  refine HK.out _ _ ⟨fun _ => ⟨hd1, cell_below bW1 d0, cell_below bW1 d1⟩, ?_⟩
  clear HK K
  try simp only [Act.put, List.setIfInBounds_toArray, List.set_cons_zero, List.set_cons_succ]
  refine one_last (i := 21) (by kernel_rfl) ?_
  refine wpOp_step rfl (fun K hK => ?_)
  have HK := hid hK
  clear hK
  go_simp
  refine HK.out _ _ ⟨fun h => absurd rfl h, ?_⟩
  clear HK K
  refine done_last (by kernel_rfl) ?_ _
  obtain ⟨W2, hW2⟩ : ∃ W2, W1.setCell ⟨T, 1, none⟩ (.slice (some ⟨w2.heap.size + 1, 0, none⟩) (xs.length + 1) kk) = W2 := ⟨_, rfl⟩
  have hTB := TBX.out
  have q3 : W2.cell? ⟨T, 3, none⟩ = some (.int .i64 (used xs)) := by rw [← hW2]; exact (World.cell?_setCell_other W1 ⟨T, 1, none⟩ ⟨T, 3, none⟩ _ (by simp)).trans (cell_below bW1 H2.out.c3)
  have qf3 : W2.frozen? ⟨T, 3, none⟩ = false := by rw [← hW2, World.frozen?_setCell]; exact (bW1.frozen (p := ⟨T, 3, none⟩) LT.out).trans (H2.out.fr 3)
  have q0 : W2.cell? ⟨bx, 0, none⟩ = some (.bool b) := by rw [← hW2]; exact (World.cell?_setCell_far _ _ _ _ (by show T ≠ bx; omega)).trans (cell_below bW1 d0)
  have q1 : W2.cell? ⟨bx, 1, none⟩ = some (.slice B l.length k) := by rw [← hW2]; exact (World.cell?_setCell_far _ _ _ _ (by show T ≠ bx; omega)).trans (cell_below bW1 d1)
  obtain ⟨u, hu⟩ : ∃ u, used xs = u := ⟨_, rfl⟩
  rw [hu] at q3
  have hus : u ≤ 16777216 := by omega
  have HU := hid hu
  have HW2 := hid hW2
  clear hu
  rw [hW2]
  clear hW2
  go_wp2
  refine region_last 9 (fun w' => w'.cell? ⟨T, 3, none⟩ = some (.int .i64 u) ∧ w'.cell? ⟨bx, 0, none⟩ = some (.bool b) ∧ w'.cell? ⟨bx, 1, none⟩ = some (.slice B l.length k)) (by kernel_rfl) ?_
  have hS6 : W2.drew.cell? ⟨T, 3, none⟩ = some (.int .i64 u) ∧ W2.drew.cell? ⟨bx, 0, none⟩ = some (.bool b) ∧ W2.drew.cell? ⟨bx, 1, none⟩ = some (.slice B l.length k) := ⟨q3, q0, q1⟩
  refine take_last (i := 0) (v := ?_) rfl (by kernel_rfl) (by kernel_rfl) (by kernel_rfl) (by kernel_rfl) (fun _ _ _ h => h) (Or.inl ⟨by rfl, ?_⟩) hS6 ?_
  rotate_left
  · (rintro w ⟨s1, s2, s3⟩; go_simp; try with_reducible rfl)
  simp only [Act.put, List.setIfInBounds_toArray, List.set_cons_zero, List.set_cons_succ]
  refine take_last (i := 1) (v := ?_) rfl (by kernel_rfl) (by kernel_rfl) (by kernel_rfl) (by kernel_rfl) (fun _ _ _ h => h) (Or.inl ⟨by rfl, ?_⟩) hS6 ?_
  rotate_left
  · (rintro w ⟨s1, s2, s3⟩; go_simp; try with_reducible rfl)
  simp only [Act.put, List.setIfInBounds_toArray, List.set_cons_zero, List.set_cons_succ]
  refine take_last (i := 2) (v := ?_) rfl (by kernel_rfl) (by kernel_rfl) (by kernel_rfl) (by kernel_rfl) (fun _ _ _ h => h) (Or.inl ⟨by rfl, ?_⟩) hS6 ?_
  rotate_left
  · (rintro w ⟨s1, s2, s3⟩; go_simp; try with_reducible rfl)
  simp only [Act.put, List.setIfInBounds_toArray, List.set_cons_zero, List.set_cons_succ]
  refine take_last (i := 3) (v := ?_) rfl (by kernel_rfl) (by kernel_rfl) (by kernel_rfl) (by kernel_rfl) (fun _ _ _ h => h) (Or.inl ⟨by rfl, ?_⟩) hS6 ?_
  rotate_left
  · (rintro w ⟨s1, s2, s3⟩; go_simp; try with_reducible rfl)
  simp only [Act.put, List.setIfInBounds_toArray, List.set_cons_zero, List.set_cons_succ]
  refine take_last (i := 4) (v := ?_) rfl (by kernel_rfl) (by kernel_rfl) (by kernel_rfl) (by kernel_rfl) (fun _ _ _ h => h) (Or.inl ⟨by rfl, ?_⟩) hS6 ?_
  rotate_left
  · (rintro w ⟨s1, s2, s3⟩; go_simp; try with_reducible rfl)
  simp only [Act.put, List.setIfInBounds_toArray, List.set_cons_zero, List.set_cons_succ]
  refine one_last (i := 5) (by kernel_rfl) ?_
  refine wpOp_step rfl (fun K hK => ?_)
  have HK := hid hK
  clear hK
  go_simp
  refine (size_any b B l.length k _ (by omega)).mono ?_
  rintro e w4 ⟨rfl, hw4⟩
  have p3 : w4.cell? ⟨T, 3, none⟩ = some (.int .i64 u) := by rw [hw4]; exact cell_past _ hS6.1
  have p0 : w4.cell? ⟨bx, 0, none⟩ = some (.bool b) := by rw [hw4]; exact cell_past _ hS6.2.1
  have p1 : w4.cell? ⟨bx, 1, none⟩ = some (.slice B l.length k) := by rw [hw4]; exact cell_past _ hS6.2.2
  have pf3 : w4.frozen? ⟨T, 3, none⟩ = false := by rw [hw4]; exact frozen_past _ hS6.1 qf3
  have w8 : IntKind.i64.wrap ((u : Int) + (8 + (l.length : Int))) = (u : Int) + (8 + (l.length : Int)) := IntWalk.i64_in _ (by omega)
  have HW4 := hid hw4
  clear hw4
  refine HK.out _ _ ⟨fun _ => ⟨p3, p0, p1⟩, ?_⟩
  clear HK K
  try simp only [Act.put, List.setIfInBounds_toArray, List.set_cons_zero, List.set_cons_succ]
  refine one_last (i := 6) (by kernel_rfl) ?_
  refine wpOp_step rfl (fun K hK => ?_)
  have HK := hid hK
  clear hK
  go_simp
  refine HK.out _ _ ⟨fun _ => ⟨p3, p0, p1⟩, ?_⟩
  clear HK K
  try simp only [Act.put, List.setIfInBounds_toArray, List.set_cons_zero, List.set_cons_succ]
  refine one_last (i := 7) (by kernel_rfl) ?_
  refine wpOp_step rfl (fun K hK => ?_)
  have HK := hid hK
  clear hK
  go_simp
  refine HK.out _ _ ⟨fun _ => ⟨p3, p0, p1⟩, ?_⟩
  clear HK K
  try simp only [Act.put, List.setIfInBounds_toArray, List.set_cons_zero, List.set_cons_succ]
  refine one_last (i := 8) (by kernel_rfl) ?_
  refine wpOp_step rfl (fun K hK => ?_)
  have HK := hid hK
  clear hK
  go_simp
  refine HK.out _ _ ⟨fun _ => ⟨p3, p0, p1⟩, ?_⟩
  clear HK K
  try simp only [Act.put, List.setIfInBounds_toArray, List.set_cons_zero, List.set_cons_succ]
  refine one_last (i := 9) (by kernel_rfl) ?_
  refine wpOp_step rfl (fun K hK => ?_)
  have HK := hid hK
  clear hK
  go_simp
  refine HK.out _ _ ⟨fun h => absurd rfl h, ?_⟩
  clear HK K
  try simp only [Act.put, List.setIfInBounds_toArray, List.set_cons_zero, List.set_cons_succ]
  refine done_last (by kernel_rfl) ?_ _
  go_wp2
  go_ret
  obtain ⟨tail, hW1e⟩ := hW1
  have hw4 := HW4.out
  have hW2 := HW2.out
  have hu := HU.out
  have hsz := SZ.out
  have hbx := HBX.out
  have hTw := H.out.lt
  have g1 : W1.heap[w2.heap.size + 1]? = some (.cells ((olds ++ [Value.bool b, Value.slice B l.length k]).toArray ++ tail) 44 (0, 0)) := by
    have h := block_new (w2.alloc (.cells #[.bool b, .slice B l.length k] 44)).drew.drew (.cells ((olds ++ [Value.bool b, Value.slice B l.length k]).toArray ++ tail) 44)
    rw [← hW1e] at h
    simpa using h
  have s1 : w2.heap.size + 1 < W1.heap.size := (Array.getElem?_eq_some_iff.1 g1).1
  have r12 : Rest T W1 W2 := by rw [← hW2]; exact rest_set _ _ _ _
  have s2 : W2.heap.size = W1.heap.size := by rw [← hW2]; simp
  have b24 : Below W2.heap.size W2 w4 := by rw [hw4]; exact ((Below.refl W2.heap.size W2).drew.alloc (by simp) _)
  have r1 : Rest T W1 (w4.setCell ⟨T, 3, none⟩ (.int .i64 ((u : Int) + (8 + (l.length : Int))))) := (r12.trans (by omega) (Rest.below b24)).trans (by have := b24.size; omega) (rest_set _ _ _ _)
  have k1 := (bW1.block T LT.out).trans H2.out.blk
  have k2 := heap_setCell_same W1 T 1 _ 58 (.slice (some ⟨w2.heap.size + 1, 0, none⟩) (xs.length + 1) kk) k1
  rw [hW2] at k2
  have k4 := (b24.block T (by omega)).trans k2
  have k5 := heap_setCell_same w4 T 3 _ 58 (.int .i64 ((u : Int) + (8 + (l.length : Int)))) k4
  refine ⟨rfl, some ⟨w2.heap.size + 1, 0, none⟩, kk, ⟨?_, ?_, fun h => (by cases h), ?_, hs, ?_, by simp; exact hkk⟩, ?_, ?_⟩
  · rw [k5, used_snoc, hu]; simp [cost]
  · exact items_grown HO3.out HO1.out HB2.out (by rw [r1 _ s1 (by have := LT.out; omega)]; exact g1) (by have := LT.out; omega) ((Rest.below bW1).trans bW1.size r1)
  · rw [used_snoc]; simp [cost]; omega
  · have := H.out.safe; simp; omega
  · have t1 := Touch.of_below (B2.out.trans ⟨bW1.os, bW1.tape, bW1.output, bW1.size, fun q hq => bW1.block q (by omega)⟩) [T]
    have t2 : Touch [T] W1 W2 := by rw [← hW2]; exact Touch.setCell W1 ⟨T, 1, none⟩ _
    have t3 := t2.trans (Touch.of_below b24 [T]) (by simp)
    exact (t1.trans t3 (by simp)).trans (Touch.setCell w4 ⟨T, 3, none⟩ _) (by simp)
  · refine ⟨w2.heap.size + 1, olds, tail, rfl, by have := SZ.out; omega, HO1.out, fun ad e j v hj => ?_, by rw [r1 _ s1 (by have := LT.out; omega)]; exact g1⟩
    have h2 := HO2.out ad e j v hj
    by_cases hx : xs = []
    · subst hx
      have h0 : olds = [] := List.eq_nil_of_length_eq_zero (by have := HO1.out; simpa using this)
      subst h0
      simp at hj
    · obtain ⟨ad', e', _, hc, _⟩ := H.out.items 0 (List.length_pos_iff.2 hx)
      rw [e] at e'
      cases e'
      have hlt : ad.block < w.heap.size := by have := World.block_lt_of_cell? w _ hc; rw [add_block] at this; exact this
      exact (World.cell?_of_block (w := w) (B2.out.block _ (by rw [add_block]; exact hlt))).symm.trans h2
theorem put_yes {w : World} {T cap safe c : Nat} {xs : List Thing} {A : Option Addr} (h : IsTape w T cap xs safe A c) (b : Bool) (B : Option Addr) (k : Nat) (l : List UInt8) (hB : BytesOut w T B k l) (hr : used xs + (8 + l.length) ≤ cap) :
    Calls Try.prog 33 #[.pointer (some ⟨T, 0, none⟩), .agg #[.bool b, .slice B l.length k]] w fun e w' => e = .returned (.int .i64 0) ∧ ∃ A' c', IsTape w' T cap (xs ++ [(b, l)]) safe A' c' ∧ Touch [T] w w' :=
  (put_row h b B k l hB hr).mono fun e w' q => ⟨q.1, by obtain ⟨A', c', h1, h2, _⟩ := q.2; exact ⟨A', c', h1, h2⟩⟩
end Go.Proofs.Ythieemfcmehdiaa
