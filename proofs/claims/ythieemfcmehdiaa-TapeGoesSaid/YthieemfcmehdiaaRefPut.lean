/- The document's Put. -/
import Derived.Test.YthieemfcmehdiaaRefRow
import Derived.Test.YthieemfcmehdiaaLast
import Derived.Deep.RegionHeld3
namespace Go.Proofs.Ythieemfcmehdiaa
open Go.RowKit
set_option linter.unusedSimpArgs false
set_option linter.unusedVariables false
theorem results_cell_tmp {P : Program} {fn : Func} {p t : Tmp} {ty : TypeId} (h : fn.results = #[.cell p ty, .tmp t]) (tmps : Array Value) (w : World) (g : Nat) (t0 : TypeId) (cs : Array Value) (fr : Nat × Nat) (d : TypeDesc)
    (hp : tmps.getD p undef = .pointer (some ⟨g, 0, none⟩)) (hg : w.heap[g]? = some (.cells cs t0 fr))
    (hu : P.underlying ty = some d) (hd : (match d with | .struct _ | .array _ _ => true | _ => false) = true) (hi : (P.info? ty).map (·.size) = some cs.size) :
    (results fn tmps).run P w = .ok (.tuple #[.agg cs, tmps.getD t undef]) w := by
  have hp' : tmps[p]?.getD undef = .pointer (some ⟨g, 0, none⟩) := by simpa using hp
  simp [results, h, hp', asAddr, run_loadVar_row w g t0 ty cs fr d hg hu hd hi]
theorem three_set {W : World} {R : Nat} {a b c : Value} {t : TypeId} (h : W.heap[R]? = some (.cells #[a, b, c] t (0, 0))) (x y z : Value) :
    (((W.setCell ⟨R, 0, none⟩ x).setCell ⟨R, 1, none⟩ y).setCell ⟨R, 2, none⟩ z).heap[R]? = some (.cells #[x, y, z] t (0, 0)) := by
  have h1 := heap_setCell_same W R 0 _ t x h
  have h2 := heap_setCell_same _ R 1 _ t y h1
  have h3 := heap_setCell_same _ R 2 _ t z h2
  exact h3.trans (by simp)
theorem three_touch (W : World) (R : Nat) (x y z : Value) : Touch [R] W (((W.setCell ⟨R, 0, none⟩ x).setCell ⟨R, 1, none⟩ y).setCell ⟨R, 2, none⟩ z) :=
  ((Touch.setCell W ⟨R, 0, none⟩ x).trans (Touch.setCell _ ⟨R, 1, none⟩ y) (by simp)).trans (Touch.setCell _ ⟨R, 2, none⟩ z) (by simp)
theorem own_form {w : World} {base : Nat} {e : TypeId} {size n : Nat} {v : Value} {xs : List Value} (h : w.ownsRow base e size v n xs) : ∃ A c, v = .slice A n c := by
  rcases h.2 with ⟨rfl, rfl⟩ | ⟨g, cap, cur, rfl, _⟩
  · exact ⟨none, 0, rfl⟩
  · exact ⟨_, _, rfl⟩
theorem put_ref_end {w Wf : World} {T cap safe c base c9 k : Nat} {xs : List Thing} {A A9 B : Option Addr} {b : Bool} {l : List UInt8} {cs : List Value} (h : RefIs w T cap xs safe A c) (hB : BytesOut w T B k l) (hcs : Cells w T xs cs) (hT : T < w.heap.size) (hTb : T < base)
    (hr : used xs + (8 + l.length) ≤ cap) (o : Wf.ownsRow base 45 2 (.slice A9 (xs.length + 1) c9) (xs.length + 1) (cs ++ [.bool b, .slice B l.length k])) (bw : Below w.heap.size w Wf) :
    ∃ A' c', Ending.returned (.tuple #[refV cap (xs.length + 1) safe A9 c9, .bool true]) = .returned (.tuple #[refV cap (xs.length + 1) safe A' c', .bool true]) ∧ RefIs Wf T cap (xs ++ [(b, l)]) safe A' c' ∧ Below w.heap.size w Wf := by
  have hlen : (xs ++ [(b, l)]).length = xs.length + 1 := by simp
  have o2 := o
  rw [← hlen] at o2
  obtain ⟨A', c', e, hi, hn, hle⟩ := ((hcs.keep (Rest.below bw)).snoc (hB.keep (Rest.below bw))).items o2 hTb
  cases e
  refine ⟨A9, c9, rfl, ⟨hi, hn, ?_, h.2.2.2.1, hle, ?_⟩, bw⟩
  · rw [used_snoc]; unfold cost; simp only; omega
  · have := h.2.2.2.2.2; simp; omega
def PutS (G cap n safe c k m : Nat) (A B : Option Addr) (b : Bool) (w : World) : Prop := w.cell? ⟨G, 0, none⟩ = some (.int .i64 cap) ∧ w.cell? ⟨G, 1, none⟩ = some (.slice A n c) ∧ w.cell? ⟨G, 2, none⟩ = some (.int .i64 safe) ∧ w.cell? ⟨G + 1, 0, none⟩ = some (.bool b) ∧ w.cell? ⟨G + 1, 1, none⟩ = some (.slice B m k)
theorem PutS.below {G cap n safe c k m : Nat} {A B : Option Addr} {b : Bool} {w w' : World} (h : PutS G cap n safe c k m A B b w) (r : Below w.heap.size w w') : PutS G cap n safe c k m A B b w' := ⟨cell_below r h.1, cell_below r h.2.1, cell_below r h.2.2.1, cell_below r h.2.2.2.1, cell_below r h.2.2.2.2⟩
set_option maxHeartbeats 4000000 in
set_option maxRecDepth 100000 in
theorem put_ref_yes {w : World} {T cap safe c : Nat} {xs : List Thing} {A : Option Addr} (h : RefIs w T cap xs safe A c) (hT : T < w.heap.size) (b : Bool) (B : Option Addr) (k : Nat) (l : List UInt8) (hB : BytesOut w T B k l) (hr : used xs + (8 + l.length) ≤ cap) :
    Calls Try.prog 28 #[refV cap xs.length safe A c, .agg #[.bool b, .slice B l.length k]] w fun e w' => ∃ A' c', e = .returned (.tuple #[refV cap (xs.length + 1) safe A' c', .bool true]) ∧ RefIs w' T cap (xs ++ [(b, l)]) safe A' c' ∧ Below w.heap.size w w' := by
  have hl := h.len
  have hc1 := h.2.2.1
  have hc2 := h.2.2.2.1
  obtain ⟨W, hW⟩ : ∃ W, ((w.alloc (.cells #[.int .i64 cap, .slice A xs.length c, .int .i64 safe] 29)).alloc (.cells #[.bool b, .slice B l.length k] 45)).alloc (.cells #[.int .i64 0, .slice none 0 0, .int .i64 0] 29) = W := ⟨_, rfl⟩
  have bW : Below w.heap.size w W := by rw [← hW]; exact ((below_new w _).alloc (by simp) _).alloc (by simp; omega) _
  have HR := hid (h.keep (Rest.below bW))
  have HB := hid (hB.keep (Rest.below bW))
  have g0 : W.heap[w.heap.size]? = some (.cells #[.int .i64 cap, .slice A xs.length c, .int .i64 safe] 29 (0, 0)) := by rw [← hW]; exact ((below_new (w.alloc _) _).alloc (by simp) _).block _ (by simp) |>.trans (block_new w _)
  have g1 : W.heap[w.heap.size + 1]? = some (.cells #[.bool b, .slice B l.length k] 45 (0, 0)) := by
    rw [← hW]
    refine ((below_new _ _).block _ (by simp)).trans ?_
    simpa using block_new (w.alloc (.cells #[.int .i64 cap, .slice A xs.length c, .int .i64 safe] 29)) (.cells #[.bool b, .slice B l.length k] 45)
  have g2 : W.heap[w.heap.size + 1 + 1]? = some (.cells #[.int .i64 0, .slice none 0 0, .int .i64 0] 29 (0, 0)) := by
    rw [← hW]
    simpa using block_new ((w.alloc (.cells #[.int .i64 cap, .slice A xs.length c, .int .i64 safe] 29)).alloc (.cells #[.bool b, .slice B l.length k] 45)) (.cells #[.int .i64 0, .slice none 0 0, .int .i64 0] 29)
  have HW := hid hW
  have G0 := hid g0
  have G1 := hid g1
  have G2 := hid g2
  have BW := hid bW
  have HR0 := hid h
  have HB0 := hid hB
  have HRM := hid hr
  clear h hB hW bW g0 g1 g2
  go_enter Try.func28, Try.ntmps28
  go_wp2
  have hw := HW.out
  rw [hw]
  obtain ⟨G, hG⟩ : ∃ G, w.heap.size = G := ⟨_, rfl⟩
  have c00 : W.cell? ⟨w.heap.size, 0, none⟩ = some (.int .i64 cap) := (cell_of_row W _ 0 _ _ _ G0.out).trans rfl
  have c01 : W.cell? ⟨w.heap.size, 1, none⟩ = some (.slice A xs.length c) := (cell_of_row W _ 1 _ _ _ G0.out).trans rfl
  have c02 : W.cell? ⟨w.heap.size, 2, none⟩ = some (.int .i64 safe) := (cell_of_row W _ 2 _ _ _ G0.out).trans rfl
  have c10 : W.cell? ⟨w.heap.size + 1, 0, none⟩ = some (.bool b) := (cell_of_row W _ 0 _ _ _ G1.out).trans rfl
  have c11 : W.cell? ⟨w.heap.size + 1, 1, none⟩ = some (.slice B l.length k) := (cell_of_row W _ 1 _ _ _ G1.out).trans rfl
  rw [hG] at c00 c01 c02 c10 c11 ⊢
  have HGG := hid hG
  have bWd := (Below.refl W.heap.size W).drew
  obtain ⟨r, hrr⟩ : ∃ r : Int, (cap : Int) - used xs = r := ⟨_, rfl⟩
  have hrl : (l.length : Int) + 8 ≤ r := by omega
  have hr2 : r ≤ 16777216 := by omega
  have w1 : IntKind.i64.wrap ((l.length : Int) + 8) = (l.length : Int) + 8 := IntWalk.i64_in _ (by omega)
  have dr : decide (r < (l.length : Int) + 8) = false := by simp; omega
  have HRR := hid hrr
  clear hw hG hrr hr hc1 hc2
  go_region_held3 (fun w' => w'.cell? ⟨G, 0, none⟩ = some (.int .i64 cap) ∧ w'.cell? ⟨G, 1, none⟩ = some (.slice A xs.length c) ∧ w'.cell? ⟨G, 2, none⟩ = some (.int .i64 safe) ∧ w'.cell? ⟨G + 1, 0, none⟩ = some (.bool b) ∧ w'.cell? ⟨G + 1, 1, none⟩ = some (.slice B l.length k) ∧ Below W.heap.size W w') (first | (refine ⟨cell_below hb ?_, cell_below hb ?_, cell_below hb ?_, cell_below hb ?_, cell_below hb ?_, below_trans ?_ hb⟩ <;> (first | assumption | simp [*])) | (go_keep))
    ((go_at_call 17; refine (room_ref (HR.out.keep (Rest.below ‹Below W.heap.size W _›))).mono ?_; rintro e w' ⟨rfl, hb⟩))
  have B1 : Below W.heap.size W w' := below_trans ‹Below W.heap.size W _› hb
  rw [HRR.out]
  have f1w : w'.frozen? ⟨G, 1, none⟩ = false := (B1.frozen (p := ⟨G, 1, none⟩) (World.block_lt_of_cell? W _ c01)).trans (by have := G0.out; rw [HGG.out] at this; exact frozen_of_row W G 1 _ _ this)
  have g2w : w'.heap[G + 1 + 1]? = some (.cells #[.int .i64 0, .slice none 0 0, .int .i64 0] 29 (0, 0)) := by have := G2.out; rw [HGG.out] at this; exact (B1.block _ (Array.getElem?_eq_some_iff.1 this).1).trans this
  have g0w : w'.heap[G]? = some (.cells #[.int .i64 cap, .slice A xs.length c, .int .i64 safe] 29 (0, 0)) := by have := G0.out; rw [HGG.out] at this; exact (B1.block _ (Array.getElem?_eq_some_iff.1 this).1).trans this
  have G0W := hid g0w
  have hS0 : PutS G cap xs.length safe c k l.length A B b w' := PutS.below ⟨c00, c01, c02, c10, c11⟩ B1
  have HRw := hid (HR.out.keep (Rest.below B1))
  have HBw := hid (HB.out.keep (Rest.below B1))
  obtain ⟨cs, hcs, hcells0⟩ := Cells.of HR0.out.1
  have bww := below_trans BW.out B1
  have hcells : ∀ ad, A = some ad → ∀ j v, cs[j]? = some v → w'.cell? (ad.add j) = some v := fun ad e j v hj => cell_below bww (hcells0 ad e j v hj)
  have HCS : Hid (Cells w T xs cs) := hid hcs
  have HCELLS := hid hcells
  have NIL : Hid (A = none → xs.length = 0 ∧ c = 0) := hid (fun e => by have h1 := HRw.out.2.1 e; have h2 := HRw.out.2.2.2.2.1; omega)
  have HB1 := hid B1
  have HS0 := hid hS0
  have F1W := hid f1w
  have G2W := hid g2w
  have KNOW : Hid (T < w'.heap.size) := hid (by have := BW.out.size; have := B1.size; omega)
  clear hcells0 bww hb B1 f1w g2w g0w hS0 hcs hcells w1 bWd c00 c01 c02 c10 c11
  go_wp2
  have bX0 : Below w'.heap.size w' w'.drew := (Below.refl _ _).drew
  obtain ⟨X0, hX0⟩ : ∃ X0, w'.drew = X0 := ⟨_, rfl⟩
  rw [hX0] at bX0
  refine region_last 8 (PutS G cap xs.length safe c k l.length A B b) (by kernel_rfl) ?_
  rw [hX0]
  have hS : PutS G cap xs.length safe c k l.length A B b X0 := HS0.out.below bX0
  clear hX0
  refine take_last (i := 1) (v := ?_) rfl (by kernel_rfl) (by kernel_rfl) (by kernel_rfl) (by kernel_rfl) (fun _ _ _ h => h) (Or.inl ⟨by rfl, ?_⟩) hS ?_
  rotate_left
  · (rintro w ⟨s1, s2, s3, s4, s5⟩; go_simp; try with_reducible rfl)
  simp only [Act.put, List.setIfInBounds_toArray, List.set_cons_zero, List.set_cons_succ]
  refine take_last (i := 2) (v := ?_) rfl (by kernel_rfl) (by kernel_rfl) (by kernel_rfl) (by kernel_rfl) (fun _ _ _ h => h) (Or.inl ⟨by rfl, ?_⟩) hS ?_
  rotate_left
  · (rintro w ⟨s1, s2, s3, s4, s5⟩; go_simp; try with_reducible rfl)
  simp only [Act.put, List.setIfInBounds_toArray, List.set_cons_zero, List.set_cons_succ]
  refine take_last (i := 4) (v := ?_) rfl (by kernel_rfl) (by kernel_rfl) (by kernel_rfl) (by kernel_rfl) (fun _ _ _ h => h) (Or.inl ⟨by rfl, ?_⟩) hS ?_
  rotate_left
  · (rintro w ⟨s1, s2, s3, s4, s5⟩; go_simp; try with_reducible rfl)
  simp only [Act.put, List.setIfInBounds_toArray, List.set_cons_zero, List.set_cons_succ]
  refine two_last (i := 0) (j := 5) (by kernel_rfl) ?_ ?_
  · refine wpOp_step rfl (fun K hK => ?_)
    have HK := hid hK
    clear hK
    go_simp
    have o14 := World.ownsRow_made (base := w'.heap.size) (e := 45) (size := 2) X0 #[] 0 bX0.size (by decide) rfl
    have bb := below_new X0 (.cells #[] 45)
    have bX1 := bX0.alloc bX0.size (.cells #[] 45)
    have hg14 := bX0.size
    obtain ⟨X1, hnew⟩ : ∃ n, X0.alloc (.cells #[] 45) = n := ⟨_, rfl⟩
    rw [hnew] at o14 bb bX1 ⊢
    obtain ⟨g14, hg⟩ : ∃ g, X0.heap.size = g := ⟨_, rfl⟩
    rw [hg] at o14 hg14 ⊢
    clear hnew bb hg
    refine HK.out _ _ ⟨fun _ => HS0.out.below bX1, ?_⟩
    clear HK K
    try simp only [Act.put, List.setIfInBounds_toArray, List.set_cons_zero, List.set_cons_succ]
    refine two_last (i := 3) (j := 5) (by kernel_rfl) ?_ ?_
    · refine wpOp_step rfl (fun K hK => ?_)
      have HK := hid hK
      clear hK
      refine step_append_items rfl (.tmp 14) (.tmp 16) rfl w'.heap.size _ 0 [] (by simp [Act.eval]) o14 A xs.length c cs (by simp [Act.eval]) HCS.out.1 NIL.out ?_ HCS.out.one (by omega) bX1.size ?_
      · exact fun ad e j v hj => cell_below bX1 (HCELLS.out ad e j v hj)
      intro v17 X2 o17 gr ob
      rw [Nat.zero_add, List.nil_append] at o17
      have bX2 := bX1.grown gr bX1.size (by intro q hq; simp [Value.ownBlock] at hq; omega)
      refine HK.out _ _ ⟨fun _ => HS0.out.below bX2, ?_⟩
      clear HK K
      try simp only [Act.put, List.setIfInBounds_toArray, List.set_cons_zero, List.set_cons_succ]
      refine one_last (i := 5) (by kernel_rfl) ?_
      refine wpOp_step rfl (fun K hK => ?_)
      have HK := hid hK
      clear hK
      go_simp
      have bb := below_new X2 (.cells #[.bool b, .slice B l.length k] 45)
      have bX3 := bX2.alloc bX2.size (.cells #[.bool b, .slice B l.length k] 45)
      have x0 : (X2.alloc (.cells #[.bool b, .slice B l.length k] 45)).cell? ⟨X2.heap.size, 0, none⟩ = some (.bool b) := (cell_new X2 #[.bool b, .slice B l.length k] 45 (0, 0) 0).trans rfl
      have x1 : (X2.alloc (.cells #[.bool b, .slice B l.length k] 45)).cell? ⟨X2.heap.size, 1, none⟩ = some (.slice B l.length k) := (cell_new X2 #[.bool b, .slice B l.length k] 45 (0, 0) 1).trans rfl
      have o17lt := o17.lt
      have o17 := own_kept o17 (Touch.of_below bb []) (by simp)
      obtain ⟨X3, hnew⟩ : ∃ n, X2.alloc (.cells #[.bool b, .slice B l.length k] 45) = n := ⟨_, rfl⟩
      rw [hnew] at bb bX3 x0 x1 ⊢ o17
      have hne5 : ∀ g, Value.ownBlock _ = some g → X2.heap.size ≠ g := fun g h => by have := (o17lt g h).2; omega
      obtain ⟨g5, hg⟩ : ∃ g, X2.heap.size = g := ⟨_, rfl⟩
      rw [hg] at x0 x1 ⊢ hne5
      clear hnew bb hg
      refine HK.out _ _ ⟨fun _ => HS0.out.below bX3, ?_⟩
      clear HK K
      try simp only [Act.put, List.setIfInBounds_toArray, List.set_cons_zero, List.set_cons_succ]
      refine one_last (i := 6) (by kernel_rfl) ?_
      refine wpOp_step rfl (fun K hK => ?_)
      have HK := hid hK
      clear hK
      refine step_append_items rfl (.tmp 17) (.tmp 19) rfl w'.heap.size v17 xs.length cs (by simp [Act.eval]) o17 (some ⟨g5, 0, none⟩) 1 1 [.bool b, .slice B l.length k] (by simp [Act.eval]) rfl (fun h => by cases h) (item_cells x0 x1) (by intro u hu; simp at hu; rcases hu with rfl | rfl <;> rfl) (by omega) bX3.size ?_
      intro v20 X9 o20 gr9 ob9
      have bX9 := bX3.grown gr9 bX3.size (fun q hq => (o17.lt q hq).1)
      obtain ⟨A9, c9, rfl⟩ := own_form o20
      refine HK.out _ _ ⟨fun _ => HS0.out.below bX9, ?_⟩
      clear HK K
      try simp only [Act.put, List.setIfInBounds_toArray, List.set_cons_zero, List.set_cons_succ]
      clear o17 gr9 ob9 x0 x1
      have O20 := hid o20
      have f9 := (bX9.frozen (p := ⟨G, 1, none⟩) (World.block_lt_of_cell? w' _ HS0.out.2.1)).trans F1W.out
      have s9 := (HS0.out.below bX9).2.1
      clear o20
      refine one_last (i := 7) (by kernel_rfl) ?_
      refine wpOp_step rfl (fun K hK => ?_)
      have HK := hid hK
      clear hK
      go_simp
      refine HK.out _ _ ⟨fun _ => HS0.out.below bX9, ?_⟩
      clear HK K
      try simp only [Act.put, List.setIfInBounds_toArray, List.set_cons_zero, List.set_cons_succ]
      refine one_last (i := 8) (by kernel_rfl) ?_
      refine wpOp_step rfl (fun K hK => ?_)
      have HK := hid hK
      clear hK
      go_simp
      refine HK.out _ _ ⟨fun h => absurd rfl h, ?_⟩
      clear HK K
      try simp only [Act.put, List.setIfInBounds_toArray, List.set_cons_zero, List.set_cons_succ]
      refine done_last (by kernel_rfl) ?_ _
      have g9 := (bX9.block G (Array.getElem?_eq_some_iff.1 G0W.out).1).trans G0W.out
      have g92 := (bX9.block (G + 1 + 1) (Array.getElem?_eq_some_iff.1 G2W.out).1).trans G2W.out
      have h9 := heap_setCell_same X9 G 1 _ 29 (.slice A9 (xs.length + 1) c9) g9
      have h92 : (X9.setCell ⟨G, 1, none⟩ (.slice A9 (xs.length + 1) c9)).heap[G + 1 + 1]? = _ := (Below.heap_setCell _ _ _ _ (by simp; omega)).trans g92
      have b9 : Touch [G] X9 (X9.setCell ⟨G, 1, none⟩ (.slice A9 (xs.length + 1) c9)) := Touch.setCell X9 ⟨G, 1, none⟩ _
      obtain ⟨W9, hW9⟩ : ∃ n, X9.setCell ⟨G, 1, none⟩ (.slice A9 (xs.length + 1) c9) = n := ⟨_, rfl⟩
      rw [hW9] at h9 h92 b9 ⊢
      have k0 : W9.cell? ⟨G, 0, none⟩ = some (.int .i64 cap) := (cell_of_row W9 G 0 _ _ _ h9).trans rfl
      have k1 : W9.cell? ⟨G, 1, none⟩ = some (.slice A9 (xs.length + 1) c9) := (cell_of_row W9 G 1 _ _ _ h9).trans rfl
      have k2 : W9.cell? ⟨G, 2, none⟩ = some (.int .i64 safe) := (cell_of_row W9 G 2 _ _ _ h9).trans rfl
      have m0 : W9.cell? ⟨G + 1 + 1, 0, none⟩ = some (.int .i64 0) := (cell_of_row W9 _ 0 _ _ _ h92).trans rfl
      have m1 : W9.cell? ⟨G + 1 + 1, 1, none⟩ = some (.slice none 0 0) := (cell_of_row W9 _ 1 _ _ _ h92).trans rfl
      have m2 : W9.cell? ⟨G + 1 + 1, 2, none⟩ = some (.int .i64 0) := (cell_of_row W9 _ 2 _ _ _ h92).trans rfl
      have mf : ∀ j, W9.frozen? ⟨G + 1 + 1, j, none⟩ = false := fun j => frozen_of_row W9 _ j _ _ h92
      have mf0 := mf 0
      have mf1 := mf 1
      have mf2 := mf 2
      have H92 := hid h92
      have T9 := hid b9
      have HX9 := hid bX9
      clear hW9 h9 h92 b9 g9 g92 mf bX9 s9 f9
      go_wp2
      have o21 := own_kept (own_kept O20.out T9.out (fun g hg => by have := (O20.out.lt g hg).1; have := (Array.getElem?_eq_some_iff.1 G2W.out).1; simp; omega)) (three_touch W9 (G + 1 + 1) (.int .i64 cap) (.slice A9 (xs.length + 1) c9) (.int .i64 safe)) (fun g hg => by have := (O20.out.lt g hg).1; have := (Array.getElem?_eq_some_iff.1 G2W.out).1; simp; omega)
      have h93 := three_set H92.out (.int .i64 cap) (.slice A9 (xs.length + 1) c9) (.int .i64 safe)
      have b93 : Below w.heap.size w (((W9.setCell ⟨G + 1 + 1, 0, none⟩ (.int .i64 cap)).setCell ⟨G + 1 + 1, 1, none⟩ (.slice A9 (xs.length + 1) c9)).setCell ⟨G + 1 + 1, 2, none⟩ (.int .i64 safe)) := Touch.below (Touch.below (below_trans (below_trans BW.out HB1.out) HX9.out) (by have := BW.out.size; have := HB1.out.size; have := HX9.out.size; omega) T9.out (by intro q hq; simp at hq; rw [hq, HGG.out]; exact Nat.le_refl _)) (by have := BW.out.size; have := HB1.out.size; have := HX9.out.size; have := T9.out.size; omega) (three_touch W9 (G + 1 + 1) _ _ _) (by intro q hq; simp at hq; rw [hq, HGG.out]; omega)
      obtain ⟨Wf, hWf⟩ : ∃ n, (((W9.setCell ⟨G + 1 + 1, 0, none⟩ (.int .i64 cap)).setCell ⟨G + 1 + 1, 1, none⟩ (.slice A9 (xs.length + 1) c9)).setCell ⟨G + 1 + 1, 2, none⟩ (.int .i64 safe)) = n := ⟨_, rfl⟩
      rw [hWf] at o21 h93 b93 ⊢
      refine bodyPost_ret (results_cell_tmp rfl _ _ (G + 1 + 1) 29 _ (0, 0) _ rfl h93 Try.underlying29 rfl (by kernel_rfl)) rfl ?_
      exact put_ref_end HR0.out HB0.out HCS.out hT KNOW.out HRM.out o21 b93
    · refine wpOp_step rfl (fun K hK => ?_)
      have HK := hid hK
      clear hK
      go_simp
      have bb := below_new X1 (.cells #[.bool b, .slice B l.length k] 45)
      have bX2 := bX1.alloc bX1.size (.cells #[.bool b, .slice B l.length k] 45)
      have x0 : (X1.alloc (.cells #[.bool b, .slice B l.length k] 45)).cell? ⟨X1.heap.size, 0, none⟩ = some (.bool b) := (cell_new X1 #[.bool b, .slice B l.length k] 45 (0, 0) 0).trans rfl
      have x1 : (X1.alloc (.cells #[.bool b, .slice B l.length k] 45)).cell? ⟨X1.heap.size, 1, none⟩ = some (.slice B l.length k) := (cell_new X1 #[.bool b, .slice B l.length k] 45 (0, 0) 1).trans rfl
      have o14lt := o14.lt
      have o14 := own_kept o14 (Touch.of_below bb []) (by simp)
      obtain ⟨X2, hnew⟩ : ∃ n, X1.alloc (.cells #[.bool b, .slice B l.length k] 45) = n := ⟨_, rfl⟩
      rw [hnew] at bb bX2 x0 x1 ⊢ o14
      have hne5 : ∀ g, Value.ownBlock _ = some g → X1.heap.size ≠ g := fun g h => by have := (o14lt g h).2; omega
      obtain ⟨g5, hg⟩ : ∃ g, X1.heap.size = g := ⟨_, rfl⟩
      rw [hg] at x0 x1 ⊢ hne5
      clear hnew bb hg
      refine HK.out _ _ ⟨fun _ => HS0.out.below bX2, ?_⟩
      clear HK K
      try simp only [Act.put, List.setIfInBounds_toArray, List.set_cons_zero, List.set_cons_succ]
      refine one_last (i := 3) (by kernel_rfl) ?_
      refine wpOp_step rfl (fun K hK => ?_)
      have HK := hid hK
      clear hK
      have hne : g5 ≠ g14 := hne5 g14 rfl
      refine step_append_items rfl (.tmp 14) (.tmp 16) rfl w'.heap.size _ 0 [] (by simp [Act.eval]) o14 A xs.length c cs (by simp [Act.eval]) HCS.out.1 NIL.out ?_ HCS.out.one (by omega) bX2.size ?_
      · exact fun ad e j v hj => cell_below bX2 (HCELLS.out ad e j v hj)
      intro v17 X3 o17 gr ob
      rw [Nat.zero_add, List.nil_append] at o17
      have bX3 := bX2.grown gr bX2.size (by intro q hq; simp [Value.ownBlock] at hq; omega)
      have tg := Touch.grown gr
      have l5 := World.block_lt_of_cell? X2 _ x0
      have x0 : X3.cell? ⟨g5, 0, none⟩ = some (.bool b) := (World.cell?_of_block (w := X2) (tg.block g5 l5 (by simp [Value.ownBlock]; omega))).trans x0
      have x1 : X3.cell? ⟨g5, 1, none⟩ = some (.slice B l.length k) := (World.cell?_of_block (w := X2) (tg.block g5 l5 (by simp [Value.ownBlock]; omega))).trans x1
      refine HK.out _ _ ⟨fun _ => HS0.out.below bX3, ?_⟩
      clear HK K
      try simp only [Act.put, List.setIfInBounds_toArray, List.set_cons_zero, List.set_cons_succ]
      refine one_last (i := 6) (by kernel_rfl) ?_
      refine wpOp_step rfl (fun K hK => ?_)
      have HK := hid hK
      clear hK
      refine step_append_items rfl (.tmp 17) (.tmp 19) rfl w'.heap.size v17 xs.length cs (by simp [Act.eval]) o17 (some ⟨g5, 0, none⟩) 1 1 [.bool b, .slice B l.length k] (by simp [Act.eval]) rfl (fun h => by cases h) (item_cells x0 x1) (by intro u hu; simp at hu; rcases hu with rfl | rfl <;> rfl) (by omega) bX3.size ?_
      intro v20 X9 o20 gr9 ob9
      have bX9 := bX3.grown gr9 bX3.size (fun q hq => (o17.lt q hq).1)
      obtain ⟨A9, c9, rfl⟩ := own_form o20
      refine HK.out _ _ ⟨fun _ => HS0.out.below bX9, ?_⟩
      clear HK K
      try simp only [Act.put, List.setIfInBounds_toArray, List.set_cons_zero, List.set_cons_succ]
      clear o17 gr9 ob9 x0 x1
      have O20 := hid o20
      have f9 := (bX9.frozen (p := ⟨G, 1, none⟩) (World.block_lt_of_cell? w' _ HS0.out.2.1)).trans F1W.out
      have s9 := (HS0.out.below bX9).2.1
      clear o20
      refine one_last (i := 7) (by kernel_rfl) ?_
      refine wpOp_step rfl (fun K hK => ?_)
      have HK := hid hK
      clear hK
      go_simp
      refine HK.out _ _ ⟨fun _ => HS0.out.below bX9, ?_⟩
      clear HK K
      try simp only [Act.put, List.setIfInBounds_toArray, List.set_cons_zero, List.set_cons_succ]
      refine one_last (i := 8) (by kernel_rfl) ?_
      refine wpOp_step rfl (fun K hK => ?_)
      have HK := hid hK
      clear hK
      go_simp
      refine HK.out _ _ ⟨fun h => absurd rfl h, ?_⟩
      clear HK K
      try simp only [Act.put, List.setIfInBounds_toArray, List.set_cons_zero, List.set_cons_succ]
      refine done_last (by kernel_rfl) ?_ _
      have g9 := (bX9.block G (Array.getElem?_eq_some_iff.1 G0W.out).1).trans G0W.out
      have g92 := (bX9.block (G + 1 + 1) (Array.getElem?_eq_some_iff.1 G2W.out).1).trans G2W.out
      have h9 := heap_setCell_same X9 G 1 _ 29 (.slice A9 (xs.length + 1) c9) g9
      have h92 : (X9.setCell ⟨G, 1, none⟩ (.slice A9 (xs.length + 1) c9)).heap[G + 1 + 1]? = _ := (Below.heap_setCell _ _ _ _ (by simp; omega)).trans g92
      have b9 : Touch [G] X9 (X9.setCell ⟨G, 1, none⟩ (.slice A9 (xs.length + 1) c9)) := Touch.setCell X9 ⟨G, 1, none⟩ _
      obtain ⟨W9, hW9⟩ : ∃ n, X9.setCell ⟨G, 1, none⟩ (.slice A9 (xs.length + 1) c9) = n := ⟨_, rfl⟩
      rw [hW9] at h9 h92 b9 ⊢
      have k0 : W9.cell? ⟨G, 0, none⟩ = some (.int .i64 cap) := (cell_of_row W9 G 0 _ _ _ h9).trans rfl
      have k1 : W9.cell? ⟨G, 1, none⟩ = some (.slice A9 (xs.length + 1) c9) := (cell_of_row W9 G 1 _ _ _ h9).trans rfl
      have k2 : W9.cell? ⟨G, 2, none⟩ = some (.int .i64 safe) := (cell_of_row W9 G 2 _ _ _ h9).trans rfl
      have m0 : W9.cell? ⟨G + 1 + 1, 0, none⟩ = some (.int .i64 0) := (cell_of_row W9 _ 0 _ _ _ h92).trans rfl
      have m1 : W9.cell? ⟨G + 1 + 1, 1, none⟩ = some (.slice none 0 0) := (cell_of_row W9 _ 1 _ _ _ h92).trans rfl
      have m2 : W9.cell? ⟨G + 1 + 1, 2, none⟩ = some (.int .i64 0) := (cell_of_row W9 _ 2 _ _ _ h92).trans rfl
      have mf : ∀ j, W9.frozen? ⟨G + 1 + 1, j, none⟩ = false := fun j => frozen_of_row W9 _ j _ _ h92
      have mf0 := mf 0
      have mf1 := mf 1
      have mf2 := mf 2
      have H92 := hid h92
      have T9 := hid b9
      have HX9 := hid bX9
      clear hW9 h9 h92 b9 g9 g92 mf bX9 s9 f9
      go_wp2
      have o21 := own_kept (own_kept O20.out T9.out (fun g hg => by have := (O20.out.lt g hg).1; have := (Array.getElem?_eq_some_iff.1 G2W.out).1; simp; omega)) (three_touch W9 (G + 1 + 1) (.int .i64 cap) (.slice A9 (xs.length + 1) c9) (.int .i64 safe)) (fun g hg => by have := (O20.out.lt g hg).1; have := (Array.getElem?_eq_some_iff.1 G2W.out).1; simp; omega)
      have h93 := three_set H92.out (.int .i64 cap) (.slice A9 (xs.length + 1) c9) (.int .i64 safe)
      have b93 : Below w.heap.size w (((W9.setCell ⟨G + 1 + 1, 0, none⟩ (.int .i64 cap)).setCell ⟨G + 1 + 1, 1, none⟩ (.slice A9 (xs.length + 1) c9)).setCell ⟨G + 1 + 1, 2, none⟩ (.int .i64 safe)) := Touch.below (Touch.below (below_trans (below_trans BW.out HB1.out) HX9.out) (by have := BW.out.size; have := HB1.out.size; have := HX9.out.size; omega) T9.out (by intro q hq; simp at hq; rw [hq, HGG.out]; exact Nat.le_refl _)) (by have := BW.out.size; have := HB1.out.size; have := HX9.out.size; have := T9.out.size; omega) (three_touch W9 (G + 1 + 1) _ _ _) (by intro q hq; simp at hq; rw [hq, HGG.out]; omega)
      obtain ⟨Wf, hWf⟩ : ∃ n, (((W9.setCell ⟨G + 1 + 1, 0, none⟩ (.int .i64 cap)).setCell ⟨G + 1 + 1, 1, none⟩ (.slice A9 (xs.length + 1) c9)).setCell ⟨G + 1 + 1, 2, none⟩ (.int .i64 safe)) = n := ⟨_, rfl⟩
      rw [hWf] at o21 h93 b93 ⊢
      refine bodyPost_ret (results_cell_tmp rfl _ _ (G + 1 + 1) 29 _ (0, 0) _ rfl h93 Try.underlying29 rfl (by kernel_rfl)) rfl ?_
      exact put_ref_end HR0.out HB0.out HCS.out hT KNOW.out HRM.out o21 b93
  · refine wpOp_step rfl (fun K hK => ?_)
    have HK := hid hK
    clear hK
    go_simp
    have bb := below_new X0 (.cells #[.bool b, .slice B l.length k] 45)
    have bX1 := bX0.alloc bX0.size (.cells #[.bool b, .slice B l.length k] 45)
    have x0 : (X0.alloc (.cells #[.bool b, .slice B l.length k] 45)).cell? ⟨X0.heap.size, 0, none⟩ = some (.bool b) := (cell_new X0 #[.bool b, .slice B l.length k] 45 (0, 0) 0).trans rfl
    have x1 : (X0.alloc (.cells #[.bool b, .slice B l.length k] 45)).cell? ⟨X0.heap.size, 1, none⟩ = some (.slice B l.length k) := (cell_new X0 #[.bool b, .slice B l.length k] 45 (0, 0) 1).trans rfl
    obtain ⟨X1, hnew⟩ : ∃ n, X0.alloc (.cells #[.bool b, .slice B l.length k] 45) = n := ⟨_, rfl⟩
    rw [hnew] at bb bX1 x0 x1 ⊢
    obtain ⟨g5, hg⟩ : ∃ g, X0.heap.size = g := ⟨_, rfl⟩
    rw [hg] at x0 x1 ⊢
    clear hnew bb hg
    refine HK.out _ _ ⟨fun _ => HS0.out.below bX1, ?_⟩
    clear HK K
    try simp only [Act.put, List.setIfInBounds_toArray, List.set_cons_zero, List.set_cons_succ]
    have x0' := x0
    refine one_last (i := 0) (by kernel_rfl) ?_
    refine wpOp_step rfl (fun K hK => ?_)
    have HK := hid hK
    clear hK
    go_simp
    have o14 := World.ownsRow_made (base := w'.heap.size) (e := 45) (size := 2) X1 #[] 0 bX1.size (by decide) rfl
    have bb := below_new X1 (.cells #[] 45)
    have bX2 := bX1.alloc bX1.size (.cells #[] 45)
    have hg14 := bX1.size
    obtain ⟨X2, hnew⟩ : ∃ n, X1.alloc (.cells #[] 45) = n := ⟨_, rfl⟩
    rw [hnew] at o14 bb bX2 ⊢
    have x0 := cell_below bb x0
    have x1 := cell_below bb x1
    have hne : g5 ≠ X1.heap.size := by have := World.block_lt_of_cell? X1 _ x0'; simp only at this; omega
    obtain ⟨g14, hg⟩ : ∃ g, X1.heap.size = g := ⟨_, rfl⟩
    rw [hg] at o14 hg14 ⊢ hne
    clear hnew bb hg
    refine HK.out _ _ ⟨fun _ => HS0.out.below bX2, ?_⟩
    clear HK K
    try simp only [Act.put, List.setIfInBounds_toArray, List.set_cons_zero, List.set_cons_succ]
    refine one_last (i := 3) (by kernel_rfl) ?_
    refine wpOp_step rfl (fun K hK => ?_)
    have HK := hid hK
    clear hK
    refine step_append_items rfl (.tmp 14) (.tmp 16) rfl w'.heap.size _ 0 [] (by simp [Act.eval]) o14 A xs.length c cs (by simp [Act.eval]) HCS.out.1 NIL.out ?_ HCS.out.one (by omega) bX2.size ?_
    · exact fun ad e j v hj => cell_below bX2 (HCELLS.out ad e j v hj)
    intro v17 X3 o17 gr ob
    rw [Nat.zero_add, List.nil_append] at o17
    have bX3 := bX2.grown gr bX2.size (by intro q hq; simp [Value.ownBlock] at hq; omega)
    have tg := Touch.grown gr
    have l5 := World.block_lt_of_cell? X2 _ x0
    have x0 : X3.cell? ⟨g5, 0, none⟩ = some (.bool b) := (World.cell?_of_block (w := X2) (tg.block g5 l5 (by simp [Value.ownBlock]; omega))).trans x0
    have x1 : X3.cell? ⟨g5, 1, none⟩ = some (.slice B l.length k) := (World.cell?_of_block (w := X2) (tg.block g5 l5 (by simp [Value.ownBlock]; omega))).trans x1
    refine HK.out _ _ ⟨fun _ => HS0.out.below bX3, ?_⟩
    clear HK K
    try simp only [Act.put, List.setIfInBounds_toArray, List.set_cons_zero, List.set_cons_succ]
    refine one_last (i := 6) (by kernel_rfl) ?_
    refine wpOp_step rfl (fun K hK => ?_)
    have HK := hid hK
    clear hK
    refine step_append_items rfl (.tmp 17) (.tmp 19) rfl w'.heap.size v17 xs.length cs (by simp [Act.eval]) o17 (some ⟨g5, 0, none⟩) 1 1 [.bool b, .slice B l.length k] (by simp [Act.eval]) rfl (fun h => by cases h) (item_cells x0 x1) (by intro u hu; simp at hu; rcases hu with rfl | rfl <;> rfl) (by omega) bX3.size ?_
    intro v20 X9 o20 gr9 ob9
    have bX9 := bX3.grown gr9 bX3.size (fun q hq => (o17.lt q hq).1)
    obtain ⟨A9, c9, rfl⟩ := own_form o20
    refine HK.out _ _ ⟨fun _ => HS0.out.below bX9, ?_⟩
    clear HK K
    try simp only [Act.put, List.setIfInBounds_toArray, List.set_cons_zero, List.set_cons_succ]
    clear o17 gr9 ob9 x0 x1
    have O20 := hid o20
    have f9 := (bX9.frozen (p := ⟨G, 1, none⟩) (World.block_lt_of_cell? w' _ HS0.out.2.1)).trans F1W.out
    have s9 := (HS0.out.below bX9).2.1
    clear o20
    refine one_last (i := 7) (by kernel_rfl) ?_
    refine wpOp_step rfl (fun K hK => ?_)
    have HK := hid hK
    clear hK
    go_simp
    refine HK.out _ _ ⟨fun _ => HS0.out.below bX9, ?_⟩
    clear HK K
    try simp only [Act.put, List.setIfInBounds_toArray, List.set_cons_zero, List.set_cons_succ]
    refine one_last (i := 8) (by kernel_rfl) ?_
    refine wpOp_step rfl (fun K hK => ?_)
    have HK := hid hK
    clear hK
    go_simp
    refine HK.out _ _ ⟨fun h => absurd rfl h, ?_⟩
    clear HK K
    try simp only [Act.put, List.setIfInBounds_toArray, List.set_cons_zero, List.set_cons_succ]
    refine done_last (by kernel_rfl) ?_ _
    have g9 := (bX9.block G (Array.getElem?_eq_some_iff.1 G0W.out).1).trans G0W.out
    have g92 := (bX9.block (G + 1 + 1) (Array.getElem?_eq_some_iff.1 G2W.out).1).trans G2W.out
    have h9 := heap_setCell_same X9 G 1 _ 29 (.slice A9 (xs.length + 1) c9) g9
    have h92 : (X9.setCell ⟨G, 1, none⟩ (.slice A9 (xs.length + 1) c9)).heap[G + 1 + 1]? = _ := (Below.heap_setCell _ _ _ _ (by simp; omega)).trans g92
    have b9 : Touch [G] X9 (X9.setCell ⟨G, 1, none⟩ (.slice A9 (xs.length + 1) c9)) := Touch.setCell X9 ⟨G, 1, none⟩ _
    obtain ⟨W9, hW9⟩ : ∃ n, X9.setCell ⟨G, 1, none⟩ (.slice A9 (xs.length + 1) c9) = n := ⟨_, rfl⟩
    rw [hW9] at h9 h92 b9 ⊢
    have k0 : W9.cell? ⟨G, 0, none⟩ = some (.int .i64 cap) := (cell_of_row W9 G 0 _ _ _ h9).trans rfl
    have k1 : W9.cell? ⟨G, 1, none⟩ = some (.slice A9 (xs.length + 1) c9) := (cell_of_row W9 G 1 _ _ _ h9).trans rfl
    have k2 : W9.cell? ⟨G, 2, none⟩ = some (.int .i64 safe) := (cell_of_row W9 G 2 _ _ _ h9).trans rfl
    have m0 : W9.cell? ⟨G + 1 + 1, 0, none⟩ = some (.int .i64 0) := (cell_of_row W9 _ 0 _ _ _ h92).trans rfl
    have m1 : W9.cell? ⟨G + 1 + 1, 1, none⟩ = some (.slice none 0 0) := (cell_of_row W9 _ 1 _ _ _ h92).trans rfl
    have m2 : W9.cell? ⟨G + 1 + 1, 2, none⟩ = some (.int .i64 0) := (cell_of_row W9 _ 2 _ _ _ h92).trans rfl
    have mf : ∀ j, W9.frozen? ⟨G + 1 + 1, j, none⟩ = false := fun j => frozen_of_row W9 _ j _ _ h92
    have mf0 := mf 0
    have mf1 := mf 1
    have mf2 := mf 2
    have H92 := hid h92
    have T9 := hid b9
    have HX9 := hid bX9
    clear hW9 h9 h92 b9 g9 g92 mf bX9 s9 f9
    go_wp2
    have o21 := own_kept (own_kept O20.out T9.out (fun g hg => by have := (O20.out.lt g hg).1; have := (Array.getElem?_eq_some_iff.1 G2W.out).1; simp; omega)) (three_touch W9 (G + 1 + 1) (.int .i64 cap) (.slice A9 (xs.length + 1) c9) (.int .i64 safe)) (fun g hg => by have := (O20.out.lt g hg).1; have := (Array.getElem?_eq_some_iff.1 G2W.out).1; simp; omega)
    have h93 := three_set H92.out (.int .i64 cap) (.slice A9 (xs.length + 1) c9) (.int .i64 safe)
    have b93 : Below w.heap.size w (((W9.setCell ⟨G + 1 + 1, 0, none⟩ (.int .i64 cap)).setCell ⟨G + 1 + 1, 1, none⟩ (.slice A9 (xs.length + 1) c9)).setCell ⟨G + 1 + 1, 2, none⟩ (.int .i64 safe)) := Touch.below (Touch.below (below_trans (below_trans BW.out HB1.out) HX9.out) (by have := BW.out.size; have := HB1.out.size; have := HX9.out.size; omega) T9.out (by intro q hq; simp at hq; rw [hq, HGG.out]; exact Nat.le_refl _)) (by have := BW.out.size; have := HB1.out.size; have := HX9.out.size; have := T9.out.size; omega) (three_touch W9 (G + 1 + 1) _ _ _) (by intro q hq; simp at hq; rw [hq, HGG.out]; omega)
    obtain ⟨Wf, hWf⟩ : ∃ n, (((W9.setCell ⟨G + 1 + 1, 0, none⟩ (.int .i64 cap)).setCell ⟨G + 1 + 1, 1, none⟩ (.slice A9 (xs.length + 1) c9)).setCell ⟨G + 1 + 1, 2, none⟩ (.int .i64 safe)) = n := ⟨_, rfl⟩
    rw [hWf] at o21 h93 b93 ⊢
    refine bodyPost_ret (results_cell_tmp rfl _ _ (G + 1 + 1) 29 _ (0, 0) _ rfl h93 Try.underlying29 rfl (by kernel_rfl)) rfl ?_
    exact put_ref_end HR0.out HB0.out HCS.out hT KNOW.out HRM.out o21 b93
end Go.Proofs.Ythieemfcmehdiaa
