/- Copy of a tape. -/
import Derived.Test.YthieemfcmehdiaaSteps
import Derived.Test.YthieemfcmehdiaaLast
import Derived.Test.YthieemfcmehdiaaHeld
namespace Go.Proofs.Ythieemfcmehdiaa
open Go.RowKit
set_option linter.unusedSimpArgs false
set_option linter.unusedVariables false
/-- what Items gave, as items outside a block made later -/
theorem ListIs.items {W : World} {e : TypeId} {base T : Nat} {A : Option Addr} {n c : Nat} {xs : List Thing} (h : ListIs W e base (.slice A n c) xs) (hT : W.heap.size ≤ T) : Items W T A xs := fun i hi => by
  obtain ⟨ad, rfl, c0, B, k, c1, hr, hk⟩ := h.at i hi
  have l0 := World.block_lt_of_cell? W _ c0
  rw [add_block] at l0
  refine ⟨ad, rfl, by omega, by rw [Nat.mul_comm]; exact c0, B, k, by rw [add_one', Nat.mul_comm]; exact c1, hr, hk, fun hne bd ebd => ?_⟩
  obtain ⟨y, l', hyl⟩ := List.exists_cons_of_ne_nil hne
  obtain ⟨ad', e', hc⟩ := hr.2 0 (by rw [hyl]; simp [bytesV])
  rw [ebd] at e'
  cases e'
  have := World.block_lt_of_cell? W _ hc
  rw [add_block] at this
  omega
theorem ListIs.plain {W : World} {e : TypeId} {base n c : Nat} {A : Option Addr} {xs : List Thing} (h : ListIs W e base (.slice A n c) xs) : (A = none ∧ c = 0) ∨ ∃ g, A = some ⟨g, 0, none⟩ := by
  obtain ⟨gs, rfl, ho, hg⟩ := h
  rcases ho.2 with ⟨h1, h0⟩ | ⟨g, cap, cur, h1, _⟩
  · cases h1; exact .inl ⟨rfl, rfl⟩
  · cases h1; exact .inr ⟨g, rfl⟩
theorem ReadsI.take {w : World} {A : Option Addr} {xs : List Thing} (h : ReadsI w A xs) (n : Nat) : ReadsI w A (xs.take n) := ⟨by have := h.1; simp; omega, fun i hi => by
  have hi2 : i < xs.length := by simp at hi; omega
  obtain ⟨ad, e, c0, B, k, c1, hr⟩ := h.2 i hi2
  have e1 : (xs.take n)[i] = xs[i] := by simp
  exact ⟨ad, e, by rw [e1]; exact c0, B, k, by rw [e1]; exact c1, by rw [e1]; exact hr⟩⟩
theorem same_first {w : World} {A A' : Option Addr} {xs zs : List Thing} (c c' s : Nat) (h : ReadsI w A zs) (h' : ReadsI w A' xs) (he : zs.take s = xs.take s) (hs : s ≤ xs.length) :
    Calls Try.prog 27 #[.slice A s c, .slice A' s c'] w fun e w' => e = .returned (.bool true) ∧ Below w.heap.size w w' := by
  have q := same_tape c c' (by have := h.take s; rw [he] at this; exact this) (h'.take s)
  rwa [show (xs.take s).length = s by simp; omega] at q
theorem slice_first {eval : Operand → Value} {o : Oper} {w : World} (x y : Operand) (A : Option Addr) (len c s : Nat) (ho : o.op = .slice 36 x none (some y) none) (hx : eval x = .slice A len c) (hy : eval y = .int .i64 s)
    (hA : (A = none ∧ c = 0) ∨ ∃ g, A = some ⟨g, 0, none⟩) (hs : s ≤ c) : (execOp eval o).run Try.prog w = .ok (.value (.slice A s c)) w := by
  rcases hA with ⟨rfl, rfl⟩ | ⟨g, rfl⟩
  · obtain rfl := Nat.le_zero.1 hs
    simp [execOp, ho, hx, hy]
    go_simp
  · simp [execOp, ho, hx, hy]
    go_simp
def CopyS (T cap safe u : Nat) (w : World) : Prop := w.cell? ⟨T, 0, none⟩ = some (.int .i64 cap) ∧ w.cell? ⟨T, 2, none⟩ = some (.int .i64 safe) ∧ w.cell? ⟨T, 3, none⟩ = some (.int .i64 u)
set_option maxHeartbeats 4000000 in
set_option maxRecDepth 100000 in
theorem copy_any {w : World} {T cap safe c : Nat} {xs : List Thing} {A : Option Addr} (h : IsTape w T cap xs safe A c) :
    Calls Try.prog 26 #[.pointer (some ⟨T, 0, none⟩)] w fun e w' => ∃ T2 A' c', e = .returned (.pointer (some ⟨T2, 0, none⟩)) ∧ w.heap.size ≤ T2 ∧ IsTape w' T2 cap xs safe A' c' ∧ Below w.heap.size w w' := by
  have H := hid h
  have c0 := h.c0
  have c2 := h.c2
  have c3 := h.c3
  clear h
  go_enter Try.func26, Try.ntmps26
  go_upto_region 3 with (fail)
  obtain ⟨u, hu⟩ : ∃ u, used xs = u := ⟨_, rfl⟩
  have HU := hid hu
  rw [hu] at c3
  clear hu
  have b0 : Below w.heap.size w w.drew := (Below.refl _ _).drew
  obtain ⟨W, hW⟩ : ∃ W, w.drew = W := ⟨_, rfl⟩
  rw [hW] at b0
  have hS : CopyS T cap safe u W := ⟨cell_below b0 c0, cell_below b0 c2, cell_below b0 c3⟩
  have HW := hid (H.out.below b0)
  have B0 := hid b0
  refine region_last 16 (CopyS T cap safe u) (by kernel_rfl) ?_
  rw [hW]
  clear hW b0 c0 c2 c3
  refine take_last (i := 0) (v := ?_) rfl (by kernel_rfl) (by kernel_rfl) (by kernel_rfl) (by kernel_rfl) (fun _ _ _ h => h) (Or.inl ⟨by rfl, ?_⟩) hS ?_
  rotate_left
  · (rintro w ⟨s1, s2, s3⟩; go_simp; try with_reducible rfl)
  simp only [Act.put, List.setIfInBounds_toArray, List.set_cons_zero, List.set_cons_succ]
  refine take_last (i := 1) (v := ?_) rfl (by kernel_rfl) (by kernel_rfl) (by kernel_rfl) (by kernel_rfl) (fun _ _ _ h => h) (Or.inl ⟨by rfl, ?_⟩) hS ?_
  rotate_left
  · (rintro w ⟨s1, s2, s3⟩; go_simp; try with_reducible rfl)
  simp only [Act.put, List.setIfInBounds_toArray, List.set_cons_zero, List.set_cons_succ]
  refine take_last (i := 2) (v := ?_) rfl (by kernel_rfl) (by kernel_rfl) (by kernel_rfl) (by kernel_rfl) (fun _ _ _ h => h) (Or.inl ⟨by rfl, ?_⟩) hS ?_
  rotate_left
  · (rintro w ⟨s1, s2, s3⟩; go_simp; try with_reducible rfl)
  simp only [Act.put, List.setIfInBounds_toArray, List.set_cons_zero, List.set_cons_succ]
  refine take_last (i := 3) (v := ?_) rfl (by kernel_rfl) (by kernel_rfl) (by kernel_rfl) (by kernel_rfl) (fun _ _ _ h => h) (Or.inl ⟨by rfl, ?_⟩) hS ?_
  rotate_left
  · (rintro w ⟨s1, s2, s3⟩; go_simp; try with_reducible rfl)
  simp only [Act.put, List.setIfInBounds_toArray, List.set_cons_zero, List.set_cons_succ]
  refine take_last (i := 4) (v := ?_) rfl (by kernel_rfl) (by kernel_rfl) (by kernel_rfl) (by kernel_rfl) (fun _ _ _ h => h) (Or.inl ⟨by rfl, ?_⟩) hS ?_
  rotate_left
  · (rintro w ⟨s1, s2, s3⟩; go_simp; try with_reducible rfl)
  simp only [Act.put, List.setIfInBounds_toArray, List.set_cons_zero, List.set_cons_succ]
  refine take_last (i := 6) (v := ?_) rfl (by kernel_rfl) (by kernel_rfl) (by kernel_rfl) (by kernel_rfl) (fun _ _ _ h => h) (Or.inl ⟨by rfl, ?_⟩) hS ?_
  rotate_left
  · (rintro w ⟨s1, s2, s3⟩; go_simp; try with_reducible rfl)
  simp only [Act.put, List.setIfInBounds_toArray, List.set_cons_zero, List.set_cons_succ]
  refine take_last (i := 7) (v := ?_) rfl (by kernel_rfl) (by kernel_rfl) (by kernel_rfl) (by kernel_rfl) (fun _ _ _ h => h) (Or.inl ⟨by rfl, ?_⟩) hS ?_
  rotate_left
  · (rintro w ⟨s1, s2, s3⟩; go_simp; try with_reducible rfl)
  simp only [Act.put, List.setIfInBounds_toArray, List.set_cons_zero, List.set_cons_succ]
  refine take_last (i := 8) (v := ?_) rfl (by kernel_rfl) (by kernel_rfl) (by kernel_rfl) (by kernel_rfl) (fun _ _ _ h => h) (Or.inl ⟨by rfl, ?_⟩) hS ?_
  rotate_left
  · (rintro w ⟨s1, s2, s3⟩; go_simp; try with_reducible rfl)
  simp only [Act.put, List.setIfInBounds_toArray, List.set_cons_zero, List.set_cons_succ]
  refine take_last (i := 9) (v := ?_) rfl (by kernel_rfl) (by kernel_rfl) (by kernel_rfl) (by kernel_rfl) (fun _ _ _ h => h) (Or.inl ⟨by rfl, ?_⟩) hS ?_
  rotate_left
  · (rintro w ⟨s1, s2, s3⟩; go_simp; try with_reducible rfl)
  simp only [Act.put, List.setIfInBounds_toArray, List.set_cons_zero, List.set_cons_succ]
  refine take_last (i := 10) (v := ?_) rfl (by kernel_rfl) (by kernel_rfl) (by kernel_rfl) (by kernel_rfl) (fun _ _ _ h => h) (Or.inl ⟨by rfl, ?_⟩) hS ?_
  rotate_left
  · (rintro w ⟨s1, s2, s3⟩; go_simp; try with_reducible rfl)
  simp only [Act.put, List.setIfInBounds_toArray, List.set_cons_zero, List.set_cons_succ]
  refine take_last (i := 11) (v := ?_) rfl (by kernel_rfl) (by kernel_rfl) (by kernel_rfl) (by kernel_rfl) (fun _ _ _ h => h) (Or.inl ⟨by rfl, ?_⟩) hS ?_
  rotate_left
  · (rintro w ⟨s1, s2, s3⟩; go_simp; try with_reducible rfl)
  simp only [Act.put, List.setIfInBounds_toArray, List.set_cons_zero, List.set_cons_succ]
  refine take_last (i := 12) (v := ?_) rfl (by kernel_rfl) (by kernel_rfl) (by kernel_rfl) (by kernel_rfl) (fun _ _ _ h => h) (Or.inl ⟨by rfl, ?_⟩) hS ?_
  rotate_left
  · (rintro w ⟨s1, s2, s3⟩; go_simp; try with_reducible rfl)
  simp only [Act.put, List.setIfInBounds_toArray, List.set_cons_zero, List.set_cons_succ]
  refine take_last (i := 13) (v := ?_) rfl (by kernel_rfl) (by kernel_rfl) (by kernel_rfl) (by kernel_rfl) (fun _ _ _ h => h) (Or.inl ⟨by rfl, ?_⟩) hS ?_
  rotate_left
  · (rintro w ⟨s1, s2, s3⟩; go_simp; try with_reducible rfl)
  simp only [Act.put, List.setIfInBounds_toArray, List.set_cons_zero, List.set_cons_succ]
  refine one_last (i := 5) (by kernel_rfl) ?_
  refine wpOp_step rfl (fun K hK => ?_)
  have HK := hid hK
  clear hK
  go_simp
  refine (items_any HW.out).mono ?_
  rintro e w3 ⟨v3, rfl, hl3, b3⟩
  obtain ⟨A3, c3, rfl, _, hn3, hc3⟩ := hl3.reads (by have := HW.out.len; omega)
  have hS3 : CopyS T cap safe u w3 := ⟨cell_below b3 hS.1, cell_below b3 hS.2.1, cell_below b3 hS.2.2⟩
  have HL3 := hid hl3
  have HN3 := hid hn3
  have HC3 := hid hc3
  have B3 := hid (below_trans B0.out b3)
  clear hl3 b3 hn3 hc3 hS
  refine HK.out _ _ ⟨fun _ => hS3, ?_⟩
  clear HK K
  try simp only [Act.put, List.setIfInBounds_toArray, List.set_cons_zero, List.set_cons_succ]
  refine one_last (i := 14) (by kernel_rfl) ?_
  refine wpOp_step rfl (fun K hK => ?_)
  have HK := hid hK
  clear hK
  go_simp
  refine HK.out _ _ ⟨fun _ => hS3, ?_⟩
  clear HK K
  try simp only [Act.put, List.setIfInBounds_toArray, List.set_cons_zero, List.set_cons_succ]
  refine one_last (i := 15) (by kernel_rfl) ?_
  refine wpOp_step rfl (fun K hK => ?_)
  have HK := hid hK
  clear hK
  go_simp
  refine HK.out _ _ ⟨fun _ => ⟨cell_past _ hS3.1, cell_past _ hS3.2.1, cell_past _ hS3.2.2⟩, ?_⟩
  clear HK K
  try simp only [Act.put, List.setIfInBounds_toArray, List.set_cons_zero, List.set_cons_succ]
  refine one_last (i := 16) (by kernel_rfl) ?_
  refine wpOp_step rfl (fun K hK => ?_)
  have HK := hid hK
  clear hK
  go_simp
  refine HK.out _ _ ⟨fun h => absurd rfl h, ?_⟩
  clear HK K
  try simp only [Act.put, List.setIfInBounds_toArray, List.set_cons_zero, List.set_cons_succ]
  refine done_last (by kernel_rfl) ?_ _
  go_wp2
  go_ret
  exact ⟨w3.heap.size, A3, c3, rfl, B3.out.size, ⟨by rw [HU.out]; exact block_new w3 _, (HL3.out.items (Nat.le_refl _)).keep (Rest.below (below_new _ _)), HN3.out, HW.out.fits, HW.out.small, HW.out.safe, HC3.out⟩, B3.out.alloc B3.out.size _⟩
end Go.Proofs.Ythieemfcmehdiaa
