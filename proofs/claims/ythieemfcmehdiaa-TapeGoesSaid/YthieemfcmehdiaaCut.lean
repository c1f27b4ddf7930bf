/- Cut of a tape. -/
import Derived.Test.YthieemfcmehdiaaAppend
namespace Go.Proofs.Ythieemfcmehdiaa
open Go.RowKit
set_option linter.unusedSimpArgs false
set_option linter.unusedVariables false
section
variable {w : World} {T cap safe c : Nat} {xs : List Thing} {A : Option Addr}
set_option maxRecDepth 100000 in
theorem cut_no (h : IsTape w T cap xs safe A c) (n : Int) (hn : n < 0 ∨ (xs.length : Int) < n) : Calls Try.prog 25 #[.pointer (some ⟨T, 0, none⟩), .int .i64 n] w fun e w' => e = .returned (.int .i64 1) ∧ w' = w := by
  have c1 := h.c1
  clear h
  by_cases h1 : n < 0
  · clear hn
    go_enter Try.func25, Try.ntmps25
    go_wp2
    go_ret
    exact ⟨rfl, rfl⟩
  · have d1 : decide ((xs.length : Int) < n) = true := by simp; omega
    have h2 : (xs.length : Int) < n := by omega
    clear hn
    go_enter Try.func25, Try.ntmps25
    go_wp2
    go_ret
    exact ⟨rfl, rfl⟩
end
theorem rest_touch {T : Nat} {w w' : World} (h : Touch [T] w w') : Rest T w w' := fun b hb hT => h.block b hb (by simpa using hT)
theorem used_append (a b : List Thing) : used (a ++ b) = used a + used b := by simp [used]
theorem used_cut {xs : List Thing} {k : Nat} (h : k < xs.length) : used (xs.drop k) = cost xs[k] + used (xs.drop (k + 1)) := by
  rw [List.drop_eq_getElem_cons h]; simp only [used, List.map_cons, List.sum_cons]
theorem used_parts (xs : List Thing) (n : Nat) : used xs = used (xs.take n) + used (xs.drop n) := by rw [← used_append, List.take_append_drop]
theorem Items.take {w : World} {T : Nat} {A : Option Addr} {xs : List Thing} (h : Items w T A xs) (n : Nat) : Items w T A (xs.take n) := fun i hi => by
  have hi2 : i < xs.length := by simp at hi; omega
  obtain ⟨ad, e, hT, hb, B, k, hs2, hO⟩ := h i hi2
  have e1 : (xs.take n)[i] = xs[i] := by simp
  exact ⟨ad, e, hT, by rw [e1]; exact hb, B, k, by rw [e1]; exact hs2, by rw [e1]; exact hO⟩
theorem cut_end {w wo : World} {T cap safe c : Nat} {xs : List Thing} {A : Option Addr} (h : IsTape w T cap xs safe A c) (n : Nat) (hn : n ≤ xs.length) (t : Touch [T] w wo)
    (hT : wo.heap[T]? = some (.cells #[.int .i64 cap, .slice A xs.length c, .int .i64 safe, .int .i64 (used (xs.take n))] 58 (0, 0))) (m : Nat) (hm : m = min safe n) :
    IsTape ((wo.setCell ⟨T, 1, none⟩ (.slice A n n)).setCell ⟨T, 2, none⟩ (.int .i64 m)).drew T cap (xs.take n) (min safe n) A n ∧ Touch [T] w ((wo.setCell ⟨T, 1, none⟩ (.slice A n n)).setCell ⟨T, 2, none⟩ (.int .i64 m)).drew := by
  subst hm
  have t1 : Touch [T] wo (wo.setCell ⟨T, 1, none⟩ (.slice A n n)) := Touch.setCell wo ⟨T, 1, none⟩ _
  have t2 : Touch [T] (wo.setCell ⟨T, 1, none⟩ (.slice A n n)) ((wo.setCell ⟨T, 1, none⟩ (.slice A n n)).setCell ⟨T, 2, none⟩ (.int .i64 ((min safe n : Nat) : Int))) := Touch.setCell _ ⟨T, 2, none⟩ _
  have t3 := ((t.trans t1 (by simp)).trans t2 (by simp)).drew
  have k1 := heap_setCell_same wo T 1 _ 58 (.slice A n n) hT
  have k2 := heap_setCell_same _ T 2 _ 58 (.int .i64 ((min safe n : Nat) : Int)) k1
  have hl : (xs.take n).length = n := by simp; omega
  refine ⟨⟨k2.trans (by rw [hl]; simp), (h.items.take n).keep (rest_touch t3), fun e => by have h1 := h.nil e; have h2 := h.room; omega, ?_, h.small, by rw [hl]; omega, by omega⟩, t3⟩
  have h1 := h.fits
  have h2 := used_parts xs n
  omega
set_option maxHeartbeats 4000000 in
set_option maxRecDepth 100000 in
theorem cut_all {w : World} {T cap safe c : Nat} {xs : List Thing} {A : Option Addr} (h : IsTape w T cap xs safe A c) (n : Nat) (hn : xs.length = n) :
    Calls Try.prog 25 #[.pointer (some ⟨T, 0, none⟩), .int .i64 n] w fun e w' => e = .returned (.int .i64 0) ∧ IsTape w' T cap (xs.take n) (min safe n) A n ∧ Touch [T] w w' := by
  have H := hid h
  have HN := hid hn
  have c1 := h.c1
  have c2 := h.c2
  have f1 := h.fr 1
  have f2 := h.fr 2
  have hl : xs.length ≤ 2097152 := by
    have h1 := h.fits
    have h2 := h.small
    have h3 := used_len xs
    omega
  have hnil := h.nil
  have hroom := h.room
  have hblk : w.heap[T]? = some (.cells #[.int .i64 cap, .slice A xs.length c, .int .i64 safe, .int .i64 (used (xs.take n))] 58 (0, 0)) := by rw [h.blk, ← hn, List.take_length]
  have HB := hid hblk
  clear h hblk
  rw [hn] at c1 hl hroom
  clear hn
  have d0 : decide ((n : Int) < 0) = false := by simp
  cases A with
  | none =>
    obtain rfl := hnil rfl
    obtain rfl : n = 0 := by omega
    obtain rfl : safe = 0 := by have := H.out.safe; have := HN.out; omega
    clear hnil hroom hl
    go_enter Try.func25, Try.ntmps25
    go_wp2
    go_loopw [29] (fun i wr => i = .int .i64 0 ∧ wr = w) (fun _ _ => 0)
    case atStart => exact ⟨rfl, rfl⟩
    case round =>
      obtain ⟨rfl, rfl⟩ := hrel
      go_wp2
      go_region
      all_goals go_wp2
      all_goals go_ret
      all_goals exact ⟨rfl, by have q := cut_end H.out 0 (by omega) (Touch.refl _ _) HB.out 0 (by simp); simpa only [Int.natCast_zero, Int.ofNat_zero, Int.cast_ofNat_Int] using q⟩
  | some ad =>
    clear hnil
    by_cases hc : n = c
    · subst hc
      go_enter Try.func25, Try.ntmps25
      go_wp2
      go_loopw [29] (fun i wr => i = .int .i64 0 ∧ wr = w) (fun _ _ => 0)
      case atStart => exact ⟨rfl, rfl⟩
      case round =>
        obtain ⟨rfl, rfl⟩ := hrel
        go_wp2
        go_region
        all_goals go_wp2
        all_goals go_ret
        all_goals exact ⟨rfl, cut_end H.out _ (by have := HN.out; omega) (Touch.refl _ _) HB.out _ (by have := H.out.safe; have := HN.out; omega)⟩
    · go_enter Try.func25, Try.ntmps25
      go_wp2
      go_loopw [29] (fun i wr => i = .int .i64 0 ∧ wr = w) (fun _ _ => 0)
      case atStart => exact ⟨rfl, rfl⟩
      case round =>
        obtain ⟨rfl, rfl⟩ := hrel
        go_wp2
        go_region
        all_goals go_wp2
        all_goals go_ret
        all_goals exact ⟨rfl, cut_end H.out _ (by have := HN.out; omega) (Touch.refl _ _) HB.out _ (by have := H.out.safe; have := HN.out; omega)⟩
set_option maxHeartbeats 4000000 in
set_option maxRecDepth 100000 in
theorem cut_yes {w : World} {T cap safe c : Nat} {xs : List Thing} {A : Option Addr} (h : IsTape w T cap xs safe A c) (n : Nat) (hn : n < xs.length) (hnc : n < c) :
    Calls Try.prog 25 #[.pointer (some ⟨T, 0, none⟩), .int .i64 n] w fun e w' => e = .returned (.int .i64 0) ∧ IsTape w' T cap (xs.take n) (min safe n) A n ∧ Touch [T] w w' := by
  have H := hid h
  have c1 := h.c1
  obtain ⟨ad, rfl, _⟩ := h.items 0 (by omega)
  have hl : xs.length ≤ 2097152 := by
    have h1 := h.fits
    have h2 := h.small
    have h3 := used_len xs
    omega
  have hne : ¬ n = c := by omega
  have d0 : decide ((n : Int) < 0) = false := by simp
  have d1 : decide ((xs.length : Int) < (n : Int)) = false := by simp; omega
  have d2 : decide (xs.length < n) = false := by simp; omega
  clear h
  go_enter Try.func25, Try.ntmps25
  go_wp2
  go_loopw [29] (fun i wr => ∃ k u : Nat, n + k ≤ xs.length ∧ i = .int .i64 k ∧ Hid (used (xs.take n) + used (xs.drop (n + k)) = u) ∧ Hid (wr.heap[T]? = some (.cells #[.int .i64 cap, .slice (some ad) xs.length c, .int .i64 safe, .int .i64 u] 58 (0, 0))) ∧ Hid (Touch [T] w wr)) (fun i _ => xs.length - n - (intOf i).toNat)
  case atStart => exact ⟨0, _, by omega, rfl, hid rfl, hid (by rw [H.out.blk, Nat.add_zero, ← used_parts]), hid (Touch.refl _ _)⟩
  case round =>
    obtain ⟨k, u, hk, rfl, HU, HT, HW⟩ := hrel
    obtain ⟨wo, rfl⟩ : ∃ wo : World, wo = wr := ⟨_, rfl⟩
    by_cases c3 : n + k < xs.length
    · have d3 : decide (k < xs.length - n) = true := by simp; omega
      obtain ⟨ad', e, hT, hb, B, kB, hs2, hO⟩ := H.out.items (n + k) c3
      cases e
      obtain ⟨x, hx⟩ : ∃ x, xs[n + k] = x := ⟨_, rfl⟩
      have huc := used_cut c3
      rw [hx] at hb hs2 hO huc
      have hm := used_parts xs n
      have hm2 := used_parts (xs.drop n) k
      rw [List.drop_drop] at hm2
      have hub : cost x ≤ u ∧ u ≤ used xs := by have h1 := HU.out; omega
      have hcc : cost x = 8 + x.2.length := rfl
      have hf := H.out.fits
      have hsm := H.out.small
      have w8 : IntKind.i64.wrap ((u : Int) - (8 + (x.2.length : Int))) = (u : Int) - (8 + (x.2.length : Int)) := IntWalk.i64_in _ (by omega)
      have hlx : x.2.length ≤ 20000000 := by omega
      have HUC := hid huc
      have HUB := hid hub
      have rw1 : Rest T w wo := rest_touch HW.out
      have q0 := rw1.cell hb (by rw [add_block]; exact hT)
      have q1 := rw1.cell hs2 (by rw [add_block]; exact hT)
      have t3 := cell_past (.cells #[.bool x.1, .slice B x.2.length kB] 44) ((cell_of_row wo T 3 _ _ _ HT.out).trans rfl)
      have f3 : wo.frozen? ⟨T, 3, none⟩ = false := frozen_of_row wo T 3 _ _ HT.out
      have pf3 := frozen_past (.cells #[.bool x.1, .slice B x.2.length kB] 44) ((cell_of_row wo T 3 _ _ _ HT.out).trans rfl) f3
      have ea : (ad.add (n * 2)).add (k * 2) = ad.add (2 * (n + k)) := by rw [Addr.add_add]; congr 1; omega
      rw [add_one', ← ea] at q1
      rw [← ea] at q0
      have C3 := hid c3
      clear rw1 ea hx huc hm hm2 hub hcc hf hsm hb hs2 hO f3
      go_wp2
      have d0 : (wo.alloc (.cells #[.bool x.1, .slice B x.2.length kB] 44)).cell? ⟨wo.heap.size, 0, none⟩ = some (.bool x.1) := (cell_new wo _ 44 (0, 0) 0).trans rfl
      have d1 : (wo.alloc (.cells #[.bool x.1, .slice B x.2.length kB] 44)).cell? ⟨wo.heap.size, 1, none⟩ = some (.slice B x.2.length kB) := (cell_new wo _ 44 (0, 0) 1).trans rfl
      have bw := hid (below_new wo (.cells #[.bool x.1, .slice B x.2.length kB] 44))
      obtain ⟨bx, hbx⟩ : ∃ bx, wo.heap.size = bx := ⟨_, rfl⟩
      obtain ⟨wb, hwb⟩ : ∃ wb, wo.alloc (.cells #[.bool x.1, .slice B x.2.length kB] 44) = wb := ⟨_, rfl⟩
      rw [hwb] at t3 pf3 d0 d1 bw ⊢
      rw [hbx] at d0 d1 ⊢
      clear q0 q1 hwb c3
      have HBX := hid hbx
      clear hbx
      refine region_last 9 (fun w' => w'.cell? ⟨T, 3, none⟩ = some (.int .i64 u) ∧ w'.cell? ⟨bx, 0, none⟩ = some (.bool x.1) ∧ w'.cell? ⟨bx, 1, none⟩ = some (.slice B x.2.length kB)) (by kernel_rfl) ?_
      have hS : wb.drew.cell? ⟨T, 3, none⟩ = some (.int .i64 u) ∧ wb.drew.cell? ⟨bx, 0, none⟩ = some (.bool x.1) ∧ wb.drew.cell? ⟨bx, 1, none⟩ = some (.slice B x.2.length kB) := ⟨t3, d0, d1⟩
      refine take_last (i := 0) (v := ?_) rfl (by kernel_rfl) (by kernel_rfl) (by kernel_rfl) (by kernel_rfl) (fun _ _ _ h => h) (Or.inl ⟨by rfl, ?_⟩) hS ?_
      rotate_left
      · (rintro w ⟨s1, s2, s3⟩; go_simp; try with_reducible rfl)
      simp only [Act.put, List.setIfInBounds_toArray, List.set_cons_zero, List.set_cons_succ]
      refine take_last (i := 1) (v := ?_) rfl (by kernel_rfl) (by kernel_rfl) (by kernel_rfl) (by kernel_rfl) (fun _ _ _ h => h) (Or.inl ⟨by rfl, ?_⟩) hS ?_
      rotate_left
      · (rintro w ⟨s1, s2, s3⟩; go_simp; try with_reducible rfl)
      simp only [Act.put, List.setIfInBounds_toArray, List.set_cons_zero, List.set_cons_succ]
      refine take_last (i := 2) (v := ?_) rfl (by kernel_rfl) (by kernel_rfl) (by kernel_rfl) (by kernel_rfl) (fun _ _ _ h => h) (Or.inl ⟨by rfl, ?_⟩) hS ?_
      rotate_left
      · (rintro w ⟨s1, s2, s3⟩; go_simp; try with_reducible rfl)
      simp only [Act.put, List.setIfInBounds_toArray, List.set_cons_zero, List.set_cons_succ]
      refine take_last (i := 3) (v := ?_) rfl (by kernel_rfl) (by kernel_rfl) (by kernel_rfl) (by kernel_rfl) (fun _ _ _ h => h) (Or.inl ⟨by rfl, ?_⟩) hS ?_
      rotate_left
      · (rintro w ⟨s1, s2, s3⟩; go_simp; try with_reducible rfl)
      simp only [Act.put, List.setIfInBounds_toArray, List.set_cons_zero, List.set_cons_succ]
      refine take_last (i := 4) (v := ?_) rfl (by kernel_rfl) (by kernel_rfl) (by kernel_rfl) (by kernel_rfl) (fun _ _ _ h => h) (Or.inl ⟨by rfl, ?_⟩) hS ?_
      rotate_left
      · (rintro w ⟨s1, s2, s3⟩; go_simp; try with_reducible rfl)
      simp only [Act.put, List.setIfInBounds_toArray, List.set_cons_zero, List.set_cons_succ]
      refine one_last (i := 5) (by kernel_rfl) ?_
      refine wpOp_step rfl (fun K hK => ?_)
      have HK := hid hK
      clear hK
      go_simp
      refine (size_any x.1 B x.2.length kB _ (by omega)).mono ?_
      rintro e w4 ⟨rfl, hw4⟩
      have p3 : w4.cell? ⟨T, 3, none⟩ = some (.int .i64 u) := by rw [hw4]; exact cell_past _ t3
      have p0 : w4.cell? ⟨bx, 0, none⟩ = some (.bool x.1) := by rw [hw4]; exact cell_past _ d0
      have p1 : w4.cell? ⟨bx, 1, none⟩ = some (.slice B x.2.length kB) := by rw [hw4]; exact cell_past _ d1
      have qf3 : w4.frozen? ⟨T, 3, none⟩ = false := by rw [hw4]; exact frozen_past _ t3 pf3
      have HW4 := hid hw4
      clear hw4
      refine HK.out _ _ ⟨fun _ => ⟨p3, p0, p1⟩, ?_⟩
      clear HK K
      try simp only [Act.put, List.setIfInBounds_toArray, List.set_cons_zero, List.set_cons_succ]
      refine one_last (i := 6) (by kernel_rfl) ?_
      refine wpOp_step rfl (fun K hK => ?_)
      have HK := hid hK
      clear hK
      go_simp
      refine HK.out _ _ ⟨fun _ => ⟨p3, p0, p1⟩, ?_⟩
      clear HK K
      try simp only [Act.put, List.setIfInBounds_toArray, List.set_cons_zero, List.set_cons_succ]
      refine one_last (i := 7) (by kernel_rfl) ?_
      refine wpOp_step rfl (fun K hK => ?_)
      have HK := hid hK
      clear hK
      go_simp
      refine HK.out _ _ ⟨fun _ => ⟨p3, p0, p1⟩, ?_⟩
      clear HK K
      try simp only [Act.put, List.setIfInBounds_toArray, List.set_cons_zero, List.set_cons_succ]
      refine one_last (i := 8) (by kernel_rfl) ?_
      refine wpOp_step rfl (fun K hK => ?_)
      have HK := hid hK
      clear hK
      go_simp
      refine HK.out _ _ ⟨fun _ => ⟨p3, p0, p1⟩, ?_⟩
      clear HK K
      try simp only [Act.put, List.setIfInBounds_toArray, List.set_cons_zero, List.set_cons_succ]
      refine one_last (i := 9) (by kernel_rfl) ?_
      refine wpOp_step rfl (fun K hK => ?_)
      have HK := hid hK
      clear hK
      go_simp
      refine HK.out _ _ ⟨fun h => absurd rfl h, ?_⟩
      clear HK K
      try simp only [Act.put, List.setIfInBounds_toArray, List.set_cons_zero, List.set_cons_succ]
      refine done_last (by kernel_rfl) ?_ _
      go_wp2
      go_roundw
      case measure => have := C3.out; simp [intOf]; omega
      case rel =>
        have hub := HUB.out
        have hcc : cost x = 8 + x.2.length := rfl
        have huc := HUC.out
        have hu := HU.out
        have hT0 := HT.out
        have lt0 : T < wo.heap.size := (Array.getElem?_eq_some_iff.1 hT0).1
        have b4 : Below wb.heap.size wb w4 := by rw [HW4.out]; exact ((Below.refl wb.heap.size wb).drew.alloc (by simp) _)
        have b5 := bw.out.trans ⟨b4.os, b4.tape, b4.output, b4.size, fun q hq => b4.block q (by have := bw.out.size; omega)⟩
        have k4 := (b5.block T lt0).trans hT0
        have k5 := heap_setCell_same w4 T 3 _ 58 (.int .i64 ((u : Int) - (8 + (x.2.length : Int)))) k4
        have eu : (u : Int) - (8 + (x.2.length : Int)) = ((u - (8 + x.2.length) : Nat) : Int) := by omega
        refine ⟨k + 1, u - (8 + x.2.length), by have := C3.out; omega, by go_num, hid ?_, hid ?_, hid ?_⟩
        · rw [← Nat.add_assoc]; omega
        · rw [k5, eu]; simp
        · exact (HW.out.trans (Touch.of_below b5 [T]) (by simp)).trans (Touch.setCell w4 ⟨T, 3, none⟩ _) (by simp)
    · have d3 : decide (k < xs.length - n) = false := by simp; omega
      obtain rfl : k = xs.length - n := by omega
      have hub : u = used (xs.take n) := by
        have h1 := HU.out
        rw [show n + (xs.length - n) = xs.length by omega, List.drop_length] at h1
        simpa [used] using h1.symm
      subst hub
      have c1w : wo.cell? ⟨T, 1, none⟩ = some (.slice (some ad) xs.length c) := (cell_of_row wo T 1 _ _ _ HT.out).trans rfl
      have c2w : wo.cell? ⟨T, 2, none⟩ = some (.int .i64 safe) := (cell_of_row wo T 2 _ _ _ HT.out).trans rfl
      have f1w : wo.frozen? ⟨T, 1, none⟩ = false := frozen_of_row wo T 1 _ _ HT.out
      have f2w : wo.frozen? ⟨T, 2, none⟩ = false := frozen_of_row wo T 2 _ _ HT.out
      clear c1
      go_wp2
      clear hne d0 d1 d2 d3
      have HT2 := hid HT
      have hc : (n : Int) ≤ (c : Int) := by omega
      go_region
      all_goals go_wp2
      all_goals go_ret
      all_goals exact ⟨rfl, cut_end H.out n (by omega) HW.out HT.out _ (by omega)⟩
/-- Cut, whatever it is told -/
theorem cut_any {w : World} {T cap safe c : Nat} {xs : List Thing} {A : Option Addr} (h : IsTape w T cap xs safe A c) (n : Nat) (hn : n ≤ xs.length) :
    Calls Try.prog 25 #[.pointer (some ⟨T, 0, none⟩), .int .i64 n] w fun e w' => e = .returned (.int .i64 0) ∧ IsTape w' T cap (xs.take n) (min safe n) A n ∧ Touch [T] w w' := by
  rcases Nat.lt_or_ge n xs.length with h1 | h1
  · have := h.room; exact cut_yes h n h1 (by omega)
  · exact cut_all h n (by omega)
end Go.Proofs.Ythieemfcmehdiaa
