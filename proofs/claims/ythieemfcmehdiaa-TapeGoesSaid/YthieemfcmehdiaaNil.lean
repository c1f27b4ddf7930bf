/- Items of a tape that is not there. -/
import Derived.RangeFuncNested
import Derived.RangeFuncBound
import Derived.RangeFuncCalls
import Derived.RangeFuncLeaves
import Derived.Shelf.Abstract
import Derived.WalkKit
import Derived.OwnWalkIn
import Derived.TacticsInMore
import Derived.LoopIn
import Derived.Test.YthieemfcmehdiaaBase
namespace Go.Proofs.Ythieemfcmehdiaa
open Go.RowKit Go.Shelf
attribute [local go_sem] Oper.semAt_some

set_option maxRecDepth 100000 in
theorem all_any (p : Option Addr) (w : World) :
    Calls Try.prog 20 #[.pointer p] w fun e w' => e = .returned (.func (.func 31) #[] #[.pointer (some ⟨w.heap.size, 0, none⟩)]) ∧ w' = w.alloc (.cells #[.pointer p] 23) := by
  go_enter Try.func20, Try.ntmps20
  go_wp2
  go_ret
  exact ⟨rfl, rfl⟩
set_option maxRecDepth 100000 in
theorem all_none (n : Nat) (hn : 3 ≤ n) {w : World} (Bp : Nat) (hBp : w.cell? ⟨Bp, 0, none⟩ = some (.pointer none)) :
    SeqStopsK Fence.wide n Try.prog 31 #[.pointer (some ⟨Bp, 0, none⟩)] (fun x : Empty => x.elim) (fun _ _ => True) (fun ys => ys = []) (fun _ => False) 0 w := by
  intro l J Jx W hW hJ hJx hY h0
  have hlW : Bp < w.heap.size := World.block_lt_of_cell? w _ hBp
  have hB := (hW.cell (p := ⟨Bp, 0, none⟩) hlW).trans hBp
  have H0 := hid h0
  clear hBp hW hY hJ h0
  refine callsIn_of_wp Try.func31 rfl trivial ?_ rfl
  simp only [Try.ntmps31, List.size_toArray, List.length_cons, List.length_nil, Nat.reduceAdd, Nat.reduceSub, Array.replicate_succ, Array.replicate_zero, List.push_toArray, List.append_toArray, List.nil_append, List.cons_append]
  gi_wp2_with fail
  refine ⟨trivial, fun _ => by omega, ?_⟩
  refine (callsIn_wide.2 (len_nil W)).mono ?_
  rintro e w1 ⟨rfl, rfl⟩
  gi_wp2
  gi_loopw [6] (fun i wr => i = .int .i64 0 ∧ wr = w1) (fun i _ => 0)
  case atStart => exact ⟨by simp, rfl⟩
  case round =>
    obtain ⟨rfl, rfl⟩ := hrel
    gi_wp2
    go_end0
    exact ⟨⟨_, rfl⟩, .inl ⟨_, rfl, H0.out⟩⟩

set_option maxHeartbeats 1000000 in
set_option maxRecDepth 100000 in
theorem items_nil (w : World) :
    CallsIn Fence.wide 9 Try.prog 14 #[.pointer none] w fun e w' => e = .returned (.slice none 0 0) ∧ Below w.heap.size w w' := by
  refine callsIn_of_wp_marks Try.func14 rfl trivial ?_ rfl
  simp only [Try.ntmps14, List.size_toArray, List.length_cons, List.length_nil, Nat.reduceAdd, Nat.reduceSub, Array.replicate_succ, Array.replicate_zero, List.push_toArray, List.append_toArray, List.nil_append, List.cons_append]
  gi_wp2_with fail
  refine ⟨trivial, ?_⟩
  refine (callsIn_wide.2 (all_any none _)).mono ?_
  rintro e w3 ⟨rfl, rfl⟩
  gi_wp2_with fail
  have c0 := cell_past (.cells #[.pointer none] 23) (cell_one w (.slice none 0 0) 36).1
  have k1 := (cell_one (w.alloc (.cells #[.slice none 0 0] 36)) (.pointer none) 23).1
  obtain ⟨W3, hW3⟩ : ∃ W, (w.alloc (.cells #[.slice none 0 0] 36)).alloc (.cells #[.pointer none] 23) = W := ⟨_, rfl⟩
  have b3 : Below w.heap.size w W3 := by rw [← hW3]; exact (below_new _ _).alloc (by simp) _
  rw [World.size_alloc] at k1
  rw [hW3] at c0 k1 ⊢
  have C0 := hid c0
  have K1 := hid k1
  have B3 := hid b3
  have Z3 : Hid (w.heap.size + 2 = W3.heap.size) := hid (by rw [← hW3]; simp)
  clear c0 k1 b3 hW3
  refine wpIn_rangeFunc_ownF rfl (by decide) (gf := 31) (lb := #[.pointer (some ⟨w.heap.size + 1, 0, none⟩)]) rfl trivial (enters_of Try.func31 (by kernel_rfl) rfl) (all_none 8 (by decide) _ K1.out) (fun _ _ => trivial) (fun _ _ _ _ _ _ _ _ => trivial) (Below.refl _ _) (fun x => x.elim)
    (fun _ W => W.cell? ⟨w.heap.size, 0, none⟩ = some (.slice none 0 0) ∧ Below w.heap.size w W)
    (fun _ _ _ => False)
    (OwnFrom.and (Own.from (fun s A B row hs hg hr => cell_kept hs hg hr) _) (ownFrom_below (Nat.le_refl _) (by have := Z3.out; omega)))
    (fun _ _ _ _ _ hs _ _ => hs)
    ⟨C0.out, B3.out⟩
    (fun x => x.elim) (fun l x W K hK => x.elim) (fun l pre x W _ hN => x.elim) ?done (fun _ _ _ _ _ _ h => h.elim)
  case done =>
    rintro D pre W hD rfl ⟨hc, hB⟩ hK
    have HB := hid hB
    have HK := hid hK
    have HD := hid hD
    clear hB hK hD
    gi_wp2
    refine ⟨by simp, .inl ⟨_, _, rfl, run_takeDeferred HK.out, ?_⟩⟩
    refine ⟨.slice none 0 0, by simp [results, Try.f14, go_sem], rfl, HB.out.trans (belowK_b (w := w) (Nat.le_refl _) W D _ _ (by have := HD.out; have := Z3.out; omega) HK.out rfl rfl)⟩
end Go.Proofs.Ythieemfcmehdiaa
