/- The document's Put where there is no room. -/
import Derived.Test.YthieemfcmehdiaaRefPut
import Derived.Deep.RegionHeld3
namespace Go.Proofs.Ythieemfcmehdiaa
open Go.RowKit
set_option linter.unusedSimpArgs false
set_option linter.unusedVariables false
set_option maxHeartbeats 4000000 in
set_option maxRecDepth 100000 in
theorem put_ref_no {w : World} {T cap safe c : Nat} {xs : List Thing} {A : Option Addr} (h : RefIs w T cap xs safe A c) (hT : T < w.heap.size) (b : Bool) (B : Option Addr) (k : Nat) (l : List UInt8) (hB : BytesOut w T B k l) (hn : l.length ≤ 20000000) (hr : cap < used xs + (8 + l.length)) :
    Calls Try.prog 28 #[refV cap xs.length safe A c, .agg #[.bool b, .slice B l.length k]] w fun e w' => e = .returned (.tuple #[refV cap xs.length safe A c, .bool false]) ∧ Below w.heap.size w w' := by
  have hl := h.len
  have hc1 := h.2.2.1
  have hc2 := h.2.2.2.1
  obtain ⟨W, hW⟩ : ∃ W, ((w.alloc (.cells #[.int .i64 cap, .slice A xs.length c, .int .i64 safe] 29)).alloc (.cells #[.bool b, .slice B l.length k] 45)).alloc (.cells #[.int .i64 0, .slice none 0 0, .int .i64 0] 29) = W := ⟨_, rfl⟩
  have bW : Below w.heap.size w W := by rw [← hW]; exact ((below_new w _).alloc (by simp) _).alloc (by simp; omega) _
  have HR := hid (h.keep (Rest.below bW))
  have HB := hid (hB.keep (Rest.below bW))
  have g0 : W.heap[w.heap.size]? = some (.cells #[.int .i64 cap, .slice A xs.length c, .int .i64 safe] 29 (0, 0)) := by rw [← hW]; exact ((below_new (w.alloc _) _).alloc (by simp) _).block _ (by simp) |>.trans (block_new w _)
  have g1 : W.heap[w.heap.size + 1]? = some (.cells #[.bool b, .slice B l.length k] 45 (0, 0)) := by
    rw [← hW]
    refine ((below_new _ _).block _ (by simp)).trans ?_
    simpa using block_new (w.alloc (.cells #[.int .i64 cap, .slice A xs.length c, .int .i64 safe] 29)) (.cells #[.bool b, .slice B l.length k] 45)
  have g2 : W.heap[w.heap.size + 1 + 1]? = some (.cells #[.int .i64 0, .slice none 0 0, .int .i64 0] 29 (0, 0)) := by
    rw [← hW]
    simpa using block_new ((w.alloc (.cells #[.int .i64 cap, .slice A xs.length c, .int .i64 safe] 29)).alloc (.cells #[.bool b, .slice B l.length k] 45)) (.cells #[.int .i64 0, .slice none 0 0, .int .i64 0] 29)
  have HW := hid hW
  have G0 := hid g0
  have G1 := hid g1
  have G2 := hid g2
  have BW := hid bW
  have HR0 := hid h
  have HB0 := hid hB
  have HRM := hid hr
  clear h hB hW bW g0 g1 g2
  go_enter Try.func28, Try.ntmps28
  go_wp2
  have hw := HW.out
  rw [hw]
  obtain ⟨G, hG⟩ : ∃ G, w.heap.size = G := ⟨_, rfl⟩
  have c00 : W.cell? ⟨w.heap.size, 0, none⟩ = some (.int .i64 cap) := (cell_of_row W _ 0 _ _ _ G0.out).trans rfl
  have c01 : W.cell? ⟨w.heap.size, 1, none⟩ = some (.slice A xs.length c) := (cell_of_row W _ 1 _ _ _ G0.out).trans rfl
  have c02 : W.cell? ⟨w.heap.size, 2, none⟩ = some (.int .i64 safe) := (cell_of_row W _ 2 _ _ _ G0.out).trans rfl
  have c10 : W.cell? ⟨w.heap.size + 1, 0, none⟩ = some (.bool b) := (cell_of_row W _ 0 _ _ _ G1.out).trans rfl
  have c11 : W.cell? ⟨w.heap.size + 1, 1, none⟩ = some (.slice B l.length k) := (cell_of_row W _ 1 _ _ _ G1.out).trans rfl
  rw [hG] at c00 c01 c02 c10 c11 ⊢
  have HGG := hid hG
  have bWd := (Below.refl W.heap.size W).drew
  obtain ⟨r, hrr⟩ : ∃ r : Int, (cap : Int) - used xs = r := ⟨_, rfl⟩
  have hrl : r < (l.length : Int) + 8 := by omega
  have hr2 : r ≤ 16777216 := by omega
  have w1 : IntKind.i64.wrap ((l.length : Int) + 8) = (l.length : Int) + 8 := IntWalk.i64_in _ (by omega)
  have dr : decide (r < (l.length : Int) + 8) = true := by simp; omega
  have HRR := hid hrr
  clear hw hG hrr hr hc1 hc2
  go_region_held3 (fun w' => w'.cell? ⟨G, 0, none⟩ = some (.int .i64 cap) ∧ w'.cell? ⟨G, 1, none⟩ = some (.slice A xs.length c) ∧ w'.cell? ⟨G, 2, none⟩ = some (.int .i64 safe) ∧ w'.cell? ⟨G + 1, 0, none⟩ = some (.bool b) ∧ w'.cell? ⟨G + 1, 1, none⟩ = some (.slice B l.length k) ∧ Below W.heap.size W w') (first | (refine ⟨cell_below hb ?_, cell_below hb ?_, cell_below hb ?_, cell_below hb ?_, cell_below hb ?_, below_trans ?_ hb⟩ <;> (first | assumption | simp [*])) | (go_keep))
    ((go_at_call 17; refine (room_ref (HR.out.keep (Rest.below ‹Below W.heap.size W _›))).mono ?_; rintro e w' ⟨rfl, hb⟩))
  have B1 : Below W.heap.size W w' := below_trans ‹Below W.heap.size W _› hb
  rw [HRR.out]
  have g2w : w'.heap[G + 1 + 1]? = some (.cells #[.int .i64 0, .slice none 0 0, .int .i64 0] 29 (0, 0)) := by have := G2.out; rw [HGG.out] at this; exact (B1.block _ (Array.getElem?_eq_some_iff.1 this).1).trans this
  have k0 := cell_below B1 c00
  have k1 := cell_below B1 c01
  have k2 := cell_below B1 c02
  have m0 : w'.cell? ⟨G + 1 + 1, 0, none⟩ = some (.int .i64 0) := (cell_of_row w' _ 0 _ _ _ g2w).trans rfl
  have m1 : w'.cell? ⟨G + 1 + 1, 1, none⟩ = some (.slice none 0 0) := (cell_of_row w' _ 1 _ _ _ g2w).trans rfl
  have m2 : w'.cell? ⟨G + 1 + 1, 2, none⟩ = some (.int .i64 0) := (cell_of_row w' _ 2 _ _ _ g2w).trans rfl
  have mf : ∀ j, w'.frozen? ⟨G + 1 + 1, j, none⟩ = false := fun j => frozen_of_row w' _ j _ _ g2w
  have mf0 := mf 0
  have mf1 := mf 1
  have mf2 := mf 2
  have H92 := hid g2w
  have HB1 := hid B1
  clear hb B1 g2w c00 c01 c02 c10 c11 w1 bWd mf
  go_wp2
  have h93 := three_set H92.out (.int .i64 cap) (.slice A xs.length c) (.int .i64 safe)
  have b93 : Below w.heap.size w (((w'.setCell ⟨G + 1 + 1, 0, none⟩ (.int .i64 cap)).setCell ⟨G + 1 + 1, 1, none⟩ (.slice A xs.length c)).setCell ⟨G + 1 + 1, 2, none⟩ (.int .i64 safe)) := Touch.below (below_trans BW.out HB1.out) (by have := BW.out.size; have := HB1.out.size; omega) (three_touch w' (G + 1 + 1) _ _ _) (by intro q hq; simp at hq; rw [hq, HGG.out]; omega)
  refine bodyPost_ret (results_cell_tmp rfl _ _ (G + 1 + 1) 29 _ (0, 0) _ rfl h93 Try.underlying29 rfl (by kernel_rfl)) rfl ?_
  exact ⟨rfl, b93⟩
end Go.Proofs.Ythieemfcmehdiaa
