/- The walk of RingNobody: a nil ring answers all its methods. -/
import Derived.Deep.RegionHeld
import Derived.Test.YtlekhibddmbjnaaIter
namespace Go.Proofs.Ytlekhibddmbjnaa
open Go.RowKit Go.Shelf
attribute [local go_sem] Oper.semAt_some

set_option maxRecDepth 100000 in
theorem put_nil (n : Int) (w : World) : Calls Try.prog 12 #[.pointer none, .int .i64 n] w fun e w' => e = .returned (.tuple #[.int .i64 0, .bool false]) ∧ w' = w := by
  go_enter Try.func12, Try.ntmps12
  go_wp2
  all_goals go_ret2
  all_goals exact ⟨rfl, rfl⟩
set_option maxRecDepth 100000 in
theorem len_nil (w : World) : Calls Try.prog 13 #[.pointer none] w fun e w' => e = .returned (.int .i64 0) ∧ w' = w := by
  go_enter Try.func13, Try.ntmps13
  go_wp2
  all_goals go_ret
  all_goals exact ⟨rfl, rfl⟩
set_option maxRecDepth 100000 in
theorem many_nil (w : World) : Calls Try.prog 14 #[.pointer none] w fun e w' => e = .returned (.int .i64 0) ∧ w' = w := by
  go_enter Try.func14, Try.ntmps14
  go_wp2
  all_goals go_ret
  all_goals exact ⟨rfl, rfl⟩
set_option maxRecDepth 100000 in
theorem room_nil (w : World) : Calls Try.prog 17 #[.pointer none] w fun e w' => e = .returned (.int .i64 0) ∧ w' = w := by
  go_enter Try.func17, Try.ntmps17
  go_wp2
  all_goals go_ret
  all_goals exact ⟨rfl, rfl⟩
set_option maxRecDepth 100000 in
theorem copy_nil (w : World) : Calls Try.prog 19 #[.pointer none] w fun e w' => e = .returned (.pointer none) ∧ w' = w := by
  go_enter Try.func19, Try.ntmps19
  go_wp2
  all_goals go_ret
  all_goals exact ⟨rfl, rfl⟩
set_option maxRecDepth 100000 in
theorem at_nil (a : Int) (w : World) : Calls Try.prog 15 #[.pointer none, .int .i64 a] w fun e w' => e = .returned (.tuple #[.int .i64 0, .bool false]) ∧ w' = w := by
  by_cases h : a < 0
  · have t1 : decide (a < 0) = true := by simpa using h
    go_enter Try.func15, Try.ntmps15
    go_wp2
    all_goals go_ret2
    all_goals exact ⟨rfl, rfl⟩
  · have t1 : decide (a < 0) = false := by simpa using h
    have t2 : decide (0 ≤ a) = true := by simpa using h
    go_enter Try.func15, Try.ntmps15
    go_wp2_with fail
    refine (len_nil w).mono ?_
    rintro e w' ⟨rfl, rfl⟩
    go_wp2
    all_goals go_ret2
    all_goals exact ⟨rfl, rfl⟩

set_option maxRecDepth 100000 in
theorem old_none (n : Nat) (hn : 3 ≤ n) {w : World} (Bp : Nat) (hBp : w.cell? ⟨Bp, 0, none⟩ = some (.pointer none)) :
    SeqStopsK Fence.wide n Try.prog 27 #[.pointer (some ⟨Bp, 0, none⟩)] (fun x : Int => #[Value.int .i64 x]) (fun _ _ => True) (fun ys => ys = []) (fun _ => False) 0 w := by
  intro l J Jx W hW hJ hJx hY h0
  have hlW : Bp < w.heap.size := World.block_lt_of_cell? w _ hBp
  have hB := (hW.cell (p := ⟨Bp, 0, none⟩) hlW).trans hBp
  have H0 := hid h0
  clear hBp hW hY hJ h0
  refine callsIn_of_wp Try.func27 rfl trivial ?_ rfl
  simp only [Try.ntmps27, List.size_toArray, List.length_cons, List.length_nil, Nat.reduceAdd, Nat.reduceSub, Array.replicate_succ, Array.replicate_zero, List.push_toArray, List.append_toArray, List.nil_append, List.cons_append]
  gi_wp2_with fail
  refine ⟨trivial, fun _ => by omega, ?_⟩
  refine (callsIn_wide.2 (len_nil W)).mono ?_
  rintro e w1 ⟨rfl, rfl⟩
  gi_wp2
  gi_loopw [3] (fun i wr => i = .int .i64 (-1) ∧ wr = w1) (fun i _ => 0)
  case atStart => exact ⟨by simp, rfl⟩
  case round =>
    obtain ⟨rfl, rfl⟩ := hrel
    gi_wp2
    go_end0
    exact ⟨⟨_, rfl⟩, .inl ⟨_, rfl, H0.out⟩⟩

set_option maxRecDepth 100000 in
theorem all_none (n : Nat) (hn : 3 ≤ n) {w : World} (Bp : Nat) (hBp : w.cell? ⟨Bp, 0, none⟩ = some (.pointer none)) :
    SeqStopsK Fence.wide n Try.prog 31 #[.pointer (some ⟨Bp, 0, none⟩)] (fun x : Int × Int => #[Value.int .i64 x.1, .int .i64 x.2]) (fun _ _ => True) (fun ys => ys = []) (fun _ => False) 0 w := by
  intro l J Jx W hW hJ hJx hY h0
  have hlW : Bp < w.heap.size := World.block_lt_of_cell? w _ hBp
  have hB := (hW.cell (p := ⟨Bp, 0, none⟩) hlW).trans hBp
  have H0 := hid h0
  clear hBp hW hY hJ h0
  refine callsIn_of_wp Try.func31 rfl trivial ?_ rfl
  simp only [Try.ntmps31, List.size_toArray, List.length_cons, List.length_nil, Nat.reduceAdd, Nat.reduceSub, Array.replicate_succ, Array.replicate_zero, List.push_toArray, List.append_toArray, List.nil_append, List.cons_append]
  gi_wp2_with fail
  refine ⟨trivial, fun _ => by omega, ?_⟩
  refine (callsIn_wide.2 (len_nil W)).mono ?_
  rintro e w1 ⟨rfl, rfl⟩
  gi_wp2
  gi_loopw [8] (fun i wr => i = .int .i64 0 ∧ wr = w1) (fun i _ => 0)
  case atStart => exact ⟨by simp, rfl⟩
  case round =>
    obtain ⟨rfl, rfl⟩ := hrel
    gi_wp2
    go_end0
    exact ⟨⟨_, rfl⟩, .inl ⟨_, rfl, H0.out⟩⟩

theorem ownFrom_def {β : Type} {B D : Nat} {o : Obj} (h : D < B) : OwnFrom B (fun (_ : β) (W : World) => W.heap[D]? = some o) :=
  fun _ _ _ _ hs hg hr => (hg.block D (Array.getElem?_eq_some_iff.1 hs).1 (fun e => by have := (hr D e.symm).1; omega)).trans hs
theorem lt_of_some {w : World} {D : Nat} {o : Obj} (h : w.heap[D]? = some o) : D < w.heap.size := (Array.getElem?_eq_some_iff.1 h).1

theorem two_put {b D D2 : Nat} {u : Value} {w W : World} (hc : W.cell? ⟨b, 0, none⟩ = some u) (h1 : W.heap[D]? = some (.deferred (some []))) (h2 : W.heap[D2]? = some (.deferred (some []))) (hne : D ≠ D2) (hD : w.heap.size ≤ D) (hD2 : w.heap.size ≤ D2) (hB : Below w.heap.size w W) :
    ((W.putObj D2 (.deferred none)).putObj D (.deferred none)).cell? ⟨b, 0, none⟩ = some u ∧ Below w.heap.size w ((W.putObj D2 (.deferred none)).putObj D (.deferred none)) := by
  have h1' : (W.putObj D2 (.deferred none)).heap[D]? = some (.deferred (some [])) := (World.putObj_heap_other hne).trans h1
  have e1 := cell_kept hc (grownBy_putObj' _ D2 (.deferred none)) (fun r e => by cases e; exact ⟨_, h2, rfl⟩)
  have e2 := cell_kept e1 (grownBy_putObj' _ D (.deferred none)) (fun r e => by cases e; exact ⟨_, h1', rfl⟩)
  exact ⟨e2, (hB.trans (belowK_b (w := w) (Nat.le_refl _) _ D2 _ _ hD2 h2 rfl rfl)).trans (belowK_b (w := w) (Nat.le_refl _) _ D _ _ hD h1' rfl rfl)⟩
theorem leaves_two {n : Nat} {P : Program} {fn : Func} {tmps : Array Value} {R : Ending → World → Prop} {D D2 : Nat} {W : World} (h1 : W.heap[D]? = some (.deferred (some []))) (h2 : W.heap[D2]? = some (.deferred (some []))) (hne : D ≠ D2)
    (h : ∃ v, (results fn tmps).run P ((W.putObj D2 (.deferred none)).putObj D (.deferred none)) = .ok v ((W.putObj D2 (.deferred none)).putObj D (.deferred none)) ∧ R (.returned v) ((W.putObj D2 (.deferred none)).putObj D (.deferred none))) :
    LeavesInM Fence.wide n P fn tmps R [{ target := .collected D2, args := #[] }, { target := .collected D, args := #[] }] .returning W := by
  have h1' : (W.putObj D2 (.deferred none)).heap[D]? = some (.deferred (some [])) := (World.putObj_heap_other hne).trans h1
  refine ⟨by simp, .inl ⟨_, _, rfl, run_takeDeferred h2, ?_⟩⟩
  refine ⟨by simp, .inl ⟨_, _, rfl, run_takeDeferred h1', ?_⟩⟩
  exact h

set_option maxHeartbeats 1000000 in
set_option maxRecDepth 100000 in
theorem nobody_in (n : Int) (w : World) :
    CallsIn Fence.wide 9 Try.prog 9 #[.int .i64 n] w fun e w' => e = .returned (.bool true) ∧ Below w.heap.size w w' := by
  refine callsIn_of_wp_marks Try.func9 rfl trivial ?_ rfl
  simp only [Try.ntmps9, List.size_toArray, List.length_cons, List.length_nil, Nat.reduceAdd, Nat.reduceSub, Array.replicate_succ, Array.replicate_zero, List.push_toArray, List.append_toArray, List.nil_append, List.cons_append]
  gi_wp2_with fail
  have hc1 := cell_one w (.bool false) 4
  obtain ⟨w0, hw0⟩ : ∃ w0, w.alloc (.cells #[.bool false] 4) = w0 := ⟨_, rfl⟩
  have z0 : w0.heap.size = w.heap.size + 1 := by rw [← hw0]; simp
  have b0 : Below w.heap.size w w0 := by rw [← hw0]; exact below_new _ _
  rw [hw0] at hc1
  obtain ⟨c1, f1⟩ := hc1
  rw [hw0]
  have Z0 := hid z0
  have B0 := hid b0
  have C1 := hid c1
  have F1 := hid f1
  clear hw0 z0 b0 c1 f1
  refine ⟨trivial, ?_⟩
  refine (callsIn_wide.2 (put_nil n w0)).mono ?_
  rintro e w1 ⟨rfl, rfl⟩
  gi_wp2_with fail
  refine ⟨trivial, ?_⟩
  refine (callsIn_wide.2 (at_nil n w1)).mono ?_
  rintro e w2 ⟨rfl, rfl⟩
  gi_wp2_with fail
  refine ⟨trivial, ?_⟩
  refine (callsIn_wide.2 (all_any none w2)).mono ?_
  rintro e w3 ⟨rfl, rfl⟩
  gi_wp2_with fail
  refine ⟨trivial, ?_⟩
  refine (callsIn_wide.2 (old_any none _)).mono ?_
  rintro e w4 ⟨rfl, rfl⟩
  have hq1 : ∀ (W : World) (x : Value), (binOp .eql 48 (.func (.func 31) #[] #[x]) .nilFunc).run Try.prog W = .ok (.bool false) W := fun _ _ => by kernel_rfl
  have hq2 : ∀ (W : World) (x : Value), (binOp .eql 32 (.func (.func 27) #[] #[x]) .nilFunc).run Try.prog W = .ok (.bool false) W := fun _ _ => by kernel_rfl
  gi_wp2_with fail
  clear hq1 hq2
  have hz := Z0.out
  have p1 := (cell_one w2 (.pointer none) 23).1
  obtain ⟨W3, hW3⟩ : ∃ W, (w2.alloc (.cells #[.pointer none] 23)).alloc (.cells #[.pointer none] 23) = W := ⟨_, rfl⟩
  have z3 : W3.heap.size = w2.heap.size + 2 := by rw [← hW3]; simp
  have b3 : Below w2.heap.size w2 W3 := by rw [← hW3]; exact (below_new _ _).alloc (by simp) _
  have k1 : W3.cell? ⟨w2.heap.size, 0, none⟩ = some (.pointer none) := by rw [← hW3]; exact cell_past _ p1
  have k2 : W3.cell? ⟨w2.heap.size + 1, 0, none⟩ = some (.pointer none) := by
    have := (cell_one (w2.alloc (.cells #[.pointer none] 23)) (.pointer none) 23).1
    rw [World.size_alloc, hW3] at this
    exact this
  have bw : Below w.heap.size w W3 := below_tr B0.out B0.out.size b3
  have d3 : W3.cell? ⟨w.heap.size, 0, none⟩ = some (.bool false) := cell_below b3 C1.out
  have f3 : W3.frozen? ⟨w.heap.size, 0, none⟩ = false := (b3.frozen (p := ⟨w.heap.size, 0, none⟩) (by show w.heap.size < w2.heap.size; omega)).trans F1.out
  rw [hW3]
  clear hW3 p1
  have K1 := hid k1
  have K2 := hid k2
  have BW := hid bw
  have D3 := hid d3
  have F3 := hid f3
  have Z3 := hid z3
  clear k1 k2 bw d3 f3 z3 b3 hz
  refine wpIn_rangeFunc_ownF rfl (by decide) (gf := 31) (lb := #[.pointer (some ⟨w2.heap.size, 0, none⟩)]) rfl trivial (enters_of Try.func31 (by kernel_rfl) rfl) (all_none 8 (by decide) _ K1.out) (fun _ _ => trivial) (fun _ _ _ _ _ _ _ _ => trivial) (Below.refl _ _) (fun _ => rfl)
    (fun _ W => (W.cell? ⟨w2.heap.size + 1, 0, none⟩ = some (.pointer none) ∧ W.cell? ⟨w.heap.size, 0, none⟩ = some (.bool false) ∧ W.frozen? ⟨w.heap.size, 0, none⟩ = false) ∧ Below w.heap.size w W)
    (fun _ _ _ => False)
    (OwnFrom.and (Own.from (fun s A B row hs hg hr => ⟨cell_kept hs.1 hg hr, cell_kept hs.2.1 hg hr, (frozen_kept hs.2.1 hg hr).trans hs.2.2⟩) _) (ownFrom_below (Nat.le_refl _) (by have := Z3.out; have := Z0.out; omega)))
    (fun _ _ _ _ _ hs _ _ => hs)
    ⟨⟨K2.out, D3.out, F3.out⟩, BW.out⟩
    _ (fun l x W K hK => by gi_wp2; exact hK) (fun l pre x W _ hN => absurd hN (Nat.not_lt_zero _)) ?done (fun _ _ _ _ _ _ h => h.elim)
  case done =>
    rintro D pre W hD rfl ⟨⟨hp, hcr, hfr⟩, hB⟩ hK
    have HP := hid hp
    have HC := hid hcr
    have HF := hid hfr
    have HB := hid hB
    have HK := hid hK
    have HD := hid hD
    clear hp hcr hfr hB hK hD
    gi_wp2_with fail
    have hDW := lt_of_some HK.out
    refine wpIn_rangeFunc_ownF rfl (by decide) (gf := 27) (lb := #[.pointer (some ⟨w2.heap.size + 1, 0, none⟩)]) rfl trivial (enters_of Try.func27 (by kernel_rfl) rfl) (old_none 8 (by decide) _ HP.out) (fun _ _ => trivial) (fun _ _ _ _ _ _ _ _ => trivial) (Below.refl _ _) (fun _ => rfl)
      (fun _ W => (W.cell? ⟨w.heap.size, 0, none⟩ = some (.bool false) ∧ W.frozen? ⟨w.heap.size, 0, none⟩ = false) ∧ Below w.heap.size w W ∧ W.heap[D]? = some (.deferred (some [])))
      (fun _ _ _ => False)
      (OwnFrom.and (Own.from (fun s A B row hs hg hr => ⟨cell_kept hs.1 hg hr, (frozen_kept hs.1 hg hr).trans hs.2⟩) _) (OwnFrom.and (ownFrom_below (Nat.le_refl _) HB.out.size) (ownFrom_def hDW)))
      (fun _ _ _ _ _ hs _ _ => hs)
      ⟨⟨HC.out, HF.out⟩, HB.out, HK.out⟩
      _ (fun l x W K hK => by gi_wp2; exact hK) (fun l pre x W _ hN => absurd hN (Nat.not_lt_zero _)) ?done2 (fun _ _ _ _ _ _ h => h.elim)
    case done2 =>
      rintro D2 pre2 W2 hD2 rfl ⟨⟨hcr2, hfr2⟩, hB2, hK2⟩ hKK
      have hne : D ≠ D2 := by omega
      have HC2 := hid hcr2
      have HF2 := hid hfr2
      have HB2 := hid hB2
      have HK2 := hid hK2
      have HKK := hid hKK
      have HNE := hid hne
      have HD2 := hid hD2
      clear hcr2 hfr2 hB2 hK2 hKK hD2 hne hDW
      gi_wp2_with fail
      refine ⟨trivial, ?_⟩
      refine (callsIn_wide.2 (len_nil W2)).mono ?_
      rintro e x1 ⟨rfl, rfl⟩
      gi_wp2_with fail
      refine ⟨trivial, ?_⟩
      refine (callsIn_wide.2 (room_nil x1)).mono ?_
      rintro e x2 ⟨rfl, rfl⟩
      gi_wp2_with fail
      refine ⟨trivial, ?_⟩
      refine (callsIn_wide.2 (many_nil x2)).mono ?_
      rintro e x3 ⟨rfl, rfl⟩
      gi_wp2_with fail
      refine ⟨trivial, ?_⟩
      refine (callsIn_wide.2 (copy_nil x3)).mono ?_
      rintro e x4 ⟨rfl, rfl⟩
      gi_wp2_with fail
      refine ⟨trivial, ?_⟩
      refine (callsIn_wide.2 (awake_any x4)).mono ?_
      rintro e W4 ⟨rfl, b4⟩
      have B4 := hid b4
      have hcr4 := (b4.cell (p := ⟨w.heap.size, 0, none⟩) (World.block_lt_of_cell? _ _ HC2.out)).trans HC2.out
      have hfr4 := (b4.frozen (p := ⟨w.heap.size, 0, none⟩) (World.block_lt_of_cell? _ _ HC2.out)).trans HF2.out
      clear b4
      gi_wp2
      have hz0 := Z0.out
      have hz3 := Z3.out
      have hD := HD.out
      have hD2 : w.heap.size ≤ D2 := Nat.le_trans HB.out.size HD2.out
      have hDD : w.heap.size ≤ D := by omega
      have q1 := (KeepsOthers.setCell W4 ⟨w.heap.size, 0, none⟩ (.bool true)).same D _ ((B4.out.block D (lt_of_some HK2.out)).trans HK2.out) rfl
      have q2 := (KeepsOthers.setCell W4 ⟨w.heap.size, 0, none⟩ (.bool true)).same D2 _ ((B4.out.block D2 (lt_of_some HKK.out)).trans HKK.out) rfl
      refine leaves_two q1 q2 HNE.out ?_
      have hK4 : (W4.setCell ⟨w.heap.size, 0, none⟩ (.bool true)).cell? ⟨w.heap.size, 0, none⟩ = some (.bool true) := World.cell?_setCell_same' W4 ⟨w.heap.size, 0, none⟩ (.bool true) (by rw [hcr4]; rfl)
      obtain ⟨hc5, bl5⟩ := two_put hK4 q1 q2 HNE.out hDD hD2 ((below_tr HB2.out HB2.out.size B4.out).setCell (p := ⟨w.heap.size, 0, none⟩) (by simp) _)
      exact ⟨.bool true, by simp [results, Try.f9, go_sem, hc5], rfl, bl5⟩
end Go.Proofs.Ytlekhibddmbjnaa
