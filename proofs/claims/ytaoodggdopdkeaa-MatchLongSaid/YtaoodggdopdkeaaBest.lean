/- The finder's best. -/
import Derived.Test.YtaoodggdopdkeaaAlike
namespace Go.Proofs.Ytaoodggdopdkeaa
open Go.RowKit

/-- the fields as they lie in the block of the best -/
def bestV (t : Nat × Nat) : Array Value := #[.int .u8 0, .int .i64 t.1, .int .i64 t.2]
theorem Finder.calm {w w' : World} {F M K c m : Nat} {b : List UInt8} {A : Option Addr} (h : Finder w F M K A c b m) (k : Below w.heap.size w w') : Finder w' F M K A c b m := by
  obtain ⟨D, ho, hD⟩ := h.map
  obtain ⟨cs, hK, hcs, hb⟩ := h.back
  obtain ⟨es, clock, hM, r⟩ := ho
  exact ⟨(k.block F h.lt).trans h.blk, h.bytes.below k, ⟨D, ⟨es, clock, (k.block M (Array.getElem?_eq_some_iff.1 hM).1).trans hM, r⟩, hD⟩, ⟨cs, (k.block K (Array.getElem?_eq_some_iff.1 hK).1).trans hK, hcs, hb⟩, h.fm, h.fk, h.mq, h.out, h.cap, h.small⟩
theorem Finder.backAt {w : World} {F M K c m : Nat} {b : List UInt8} {A : Option Addr} (h : Finder w F M K A c b m) {i : Nat} (hi : i < m) : w.cell? ⟨K, i, none⟩ = some (.int .i64 (Plain.prevI b i)) := by
  obtain ⟨cs, hK, _, hb⟩ := h.back
  rw [cell_of_row w K i _ _ _ hK]
  exact hb i hi
theorem set3_block {W : World} {g : Nat} {T : TypeId} {x y z u v t : Value} (h : W.heap[g]? = some (.cells #[x, y, z] T (0, 0))) :
    (((W.setCell ⟨g, 0, none⟩ u).setCell ⟨g, 1, none⟩ v).setCell ⟨g, 2, none⟩ t).heap[g]? = some (.cells #[u, v, t] T (0, 0)) := by
  have h1 := heap_setCell_same W g 0 _ T u h
  have h2 := heap_setCell_same _ g 1 _ T v h1
  have h3 := heap_setCell_same _ g 2 _ T t h2
  exact h3
theorem set3_other {W : World} {g h : Nat} {u v t : Value} {o : Option Obj} (hne : g ≠ h) (hg : W.heap[g]? = o) :
    (((W.setCell ⟨h, 0, none⟩ u).setCell ⟨h, 1, none⟩ v).setCell ⟨h, 2, none⟩ t).heap[g]? = o :=
  ((heap_setCell_other _ _ _ _ hne).trans ((heap_setCell_other _ _ _ _ hne).trans (heap_setCell_other _ _ _ _ hne))).trans hg
theorem best_hit {b : List UInt8} {win q p t1 t2 n : Nat} (hq : q ≤ b.length) (h : Plain.Chain b win q (t1, t2) (p : Int)) (hw : q - p ≤ win) (hn : Plain.alike b p q = n) (hl : t1 < n) :
    Plain.bestTo b q (q - p) = (n, q - p) ∧ Plain.Chain b win q (n, q - p) (Plain.prevI b p) := by
  have := Plain.chain_step hq h hw
  rw [hn, if_pos hl] at this
  exact ⟨this.1.symm, this.2⟩
theorem best_miss {b : List UInt8} {win q p t1 t2 n : Nat} (hq : q ≤ b.length) (h : Plain.Chain b win q (t1, t2) (p : Int)) (hw : q - p ≤ win) (hn : Plain.alike b p q = n) (hl : ¬ t1 < n) :
    Plain.Chain b win q (t1, t2) (Plain.prevI b p) := by
  have := Plain.chain_step hq h hw
  rw [hn, if_neg hl] at this
  exact this.2
theorem bestV_of {n q p : Nat} (hp : p < q) : bestV (n, q - p) = #[.int .u8 0, .int .i64 n, .int .i64 ((q : Int) - p)] := by
  unfold bestV
  rw [show (((q - p : Nat) : Int)) = (q : Int) - p by omega]
set_option maxHeartbeats 2000000 in
set_option maxRecDepth 100000 in
theorem best_any {w : World} {F M K c : Nat} {b : List UInt8} {A : Option Addr} (q win : Nat) (h : Finder w F M K A c b (q + 1)) (hq : q < b.length) :
    Calls Try.prog 19 #[.pointer (some ⟨F, 0, none⟩), .int .i64 q, .int .i64 win] w fun e w' => e = .returned (.agg (bestV (Plain.bestTo b q (min win q)))) ∧ Below w.heap.size w w' := by
  have hsm := h.small
  have H := hid h
  have HST := hid (Plain.chain_start b win q (by omega))
  have b0 := h.backAt (i := q) (by omega)
  have k2 := h.c2
  have hFl := h.lt
  have hKl : K < w.heap.size := World.block_lt_of_cell? w _ b0
  clear h
  obtain ⟨z, hz⟩ : ∃ z, Plain.prevI b q = z := ⟨_, rfl⟩
  rw [hz] at b0 HST
  clear hz
  go_enter Try.func19, Try.ntmps19
  go_wp2
  obtain ⟨N, hN⟩ : ∃ N, w.heap.size = N := ⟨_, rfl⟩
  obtain ⟨W0, hW0⟩ : ∃ W, (w.alloc (.cells #[.int .u8 0, .int .i64 0, .int .i64 0] 33)).alloc (.cells #[.int .u8 0, .int .i64 0, .int .i64 0] 33) = W := ⟨_, rfl⟩
  have bb : Below w.heap.size w W0 := by rw [← hW0]; exact (below_new _ _).alloc (by simp) _
  have g0 : W0.heap[N]? = some (.cells #[.int .u8 0, .int .i64 0, .int .i64 0] 33 (0, 0)) := by rw [← hW0, ← hN]; exact ((below_new (w.alloc _) _).block _ (by simp)).trans (block_new w _)
  have g1 : W0.heap[N + 1]? = some (.cells (bestV (0, 0)) 33 (0, 0)) := by
    have := block_new (w.alloc (.cells #[.int .u8 0, .int .i64 0, .int .i64 0] 33)) (.cells #[.int .u8 0, .int .i64 0, .int .i64 0] 33)
    rw [hW0] at this
    rw [← hN]
    simp only [World.size_alloc] at this
    exact this
  have HN := hid hN
  rw [hN] at bb
  rw [hW0, hN]
  have BB := hid bb
  have G0 := hid g0
  have G1 := hid g1
  clear hN hW0 bb g0 g1 hFl hKl b0 k2
  go_loopw [8] (fun i wr => ∃ (p : Int) (t : Nat × Nat), i = .int .i64 p ∧ Hid (Plain.Chain b win q t p) ∧ Hid (Below N w wr) ∧ Hid (wr.heap[N]? = some (.cells #[.int .u8 0, .int .i64 0, .int .i64 0] 33 (0, 0))) ∧ Hid (wr.heap[N + 1]? = some (.cells (bestV t) 33 (0, 0)))) (fun i _ => (intOf i + 1).toNat)
  case atStart => exact ⟨z, (0, 0), rfl, HST, BB, G0, G1⟩
  case round =>
    obtain ⟨p, t, rfl, HC, HB, HG0, HG1⟩ := hrel
    obtain ⟨t1, t2⟩ := t
    have f0 : wr.cell? ⟨N + 1, 0, none⟩ = some (.int .u8 0) := (cell_of_row wr (N + 1) 0 _ _ _ HG1.out).trans rfl
    have f1 : wr.cell? ⟨N + 1, 1, none⟩ = some (.int .i64 t1) := (cell_of_row wr (N + 1) 1 _ _ _ HG1.out).trans rfl
    have f2 : wr.cell? ⟨N + 1, 2, none⟩ = some (.int .i64 t2) := (cell_of_row wr (N + 1) 2 _ _ _ HG1.out).trans rfl
    have r0 := frozen_of_row wr (N + 1) 0 _ _ HG1.out
    have r1 := frozen_of_row wr (N + 1) 1 _ _ HG1.out
    have r2 := frozen_of_row wr (N + 1) 2 _ _ HG1.out
    have e0 : wr.cell? ⟨N, 0, none⟩ = some (.int .u8 0) := (cell_of_row wr N 0 _ _ _ HG0.out).trans rfl
    have e1 : wr.cell? ⟨N, 1, none⟩ = some (.int .i64 0) := (cell_of_row wr N 1 _ _ _ HG0.out).trans rfl
    have e2 : wr.cell? ⟨N, 2, none⟩ = some (.int .i64 0) := (cell_of_row wr N 2 _ _ _ HG0.out).trans rfl
    have q0 := frozen_of_row wr N 0 _ _ HG0.out
    have q1 := frozen_of_row wr N 1 _ _ HG0.out
    have q2 := frozen_of_row wr N 2 _ _ HG0.out
    by_cases c : 0 ≤ p ∧ (q : Int) - p ≤ win
    · obtain ⟨c1, c2⟩ := c
      obtain ⟨p, rfl⟩ := Int.eq_ofNat_of_zero_le c1
      have hp : p < q := by have := HC.out.2.1; omega
      have hw : q - p ≤ win := by omega
      have d1 : decide ((0 : Int) ≤ p) = true := by simp
      have d2 : decide ((q : Int) - p ≤ win) = true := by simp; omega
      have HF := hid (H.out.calm (by rw [HN.out]; exact HB.out))
      clear c1 c2
      go_wp2_with fail
      refine (alike_any HF.out p q hp hq).mono ?_
      rintro e w1 ⟨rfl, na, rfl⟩
      obtain ⟨n, hn⟩ : ∃ n, Plain.alike b p q = n := ⟨_, rfl⟩
      rw [hn]
      have HNN := hid hn
      clear hn
      have k2 := (HF.out.calm ((Calm.of_drewN wr na).below _)).c2
      have kp := (HF.out.calm ((Calm.of_drewN wr na).below _)).backAt (i := p) (by omega)
      have hFl : F < N := by rw [← HN.out]; exact H.out.lt
      have hKl : K < N := by
        obtain ⟨cs, hK, _⟩ := H.out.back
        rw [← HN.out]
        exact (Array.getElem?_eq_some_iff.1 hK).1
      have bN := HB.out.trans ((Calm.of_drewN wr na).below N)
      have hN9 : (wr.drewN na).heap[N]? = some (.cells #[.int .u8 0, .int .i64 0, .int .i64 0] 33 (0, 0)) := HG0.out
      have hN8 : (wr.drewN na).heap[N + 1]? = some (.cells #[.int .u8 0, .int .i64 t1, .int .i64 t2] 33 (0, 0)) := HG1.out
      have BN := hid bN
      have HN9 := hid hN9
      have HN8 := hid hN8
      clear bN hN9 hN8
      obtain ⟨z2, hz2⟩ : ∃ z, Plain.prevI b p = z := ⟨_, rfl⟩
      rw [hz2] at kp
      have HZ2 := hid hz2
      clear hz2
      by_cases hl : t1 < n
      · have hl2 : decide (t1 < n) = true := by simp; omega
        obtain ⟨hh1, hh2⟩ := best_hit (by omega) HC.out hw HNN.out hl
        have HH1 := hid hh1
        have HH2 := hid hh2
        clear hh1 hh2 hl
        by_cases h258 : n = 258
        · have hd : ((n : Int) == 258) = true := by simp; omega
          have H258 := hid h258
          clear h258
          go_wp2
          have hu := set3_block (set3_other (W := wr.drewN na) (h := N + 1) (u := .int .u8 0) (v := .int .i64 n) (t := .int .i64 ((q : Int) - p)) (show N ≠ N + 1 by omega) HG0.out) (u := .int .u8 0) (v := .int .i64 n) (t := .int .i64 ((q : Int) - p))
          refine bodyPost_ret (v := .agg #[.int .u8 0, .int .i64 n, .int .i64 ((q : Int) - p)]) (results_cell_row rfl _ _ N 33 _ (0, 0) _ rfl hu Try.underlying33 rfl (by kernel_rfl)) rfl ⟨?_, ?_⟩
          · rw [← Plain.chain_full (by omega) hp hw (by rw [HH1.out]; exact H258.out), HH1.out, bestV_of hp]
          · rw [HN.out]
            exact (((((BN.out.setCell (p := ⟨N + 1, 0, none⟩) (by simp) _).setCell (p := ⟨N + 1, 1, none⟩) (by simp) _).setCell (p := ⟨N + 1, 2, none⟩) (by simp) _).setCell (p := ⟨N, 0, none⟩) (by simp) _).setCell (p := ⟨N, 1, none⟩) (by simp) _).setCell (p := ⟨N, 2, none⟩) (by simp) _
        · have hd : ((n : Int) == 258) = false := by simp; omega
          clear h258
          obtain ⟨W4, hW4⟩ : ∃ W4, (((wr.drewN na).setCell ⟨N + 1, 0, none⟩ (.int .u8 0)).setCell ⟨N + 1, 1, none⟩ (.int .i64 n)).setCell ⟨N + 1, 2, none⟩ (.int .i64 ((q : Int) - p)) = W4 := ⟨_, rfl⟩
          have far : ∀ {x : Addr} {v : Value}, x.block < N → (wr.drewN na).cell? x = some v → W4.cell? x = some v := fun hx hc => by
            rw [← hW4]
            exact ((World.cell?_setCell_far _ _ _ _ (by show N + 1 ≠ _; omega)).trans ((World.cell?_setCell_far _ _ _ _ (by show N + 1 ≠ _; omega)).trans (World.cell?_setCell_far _ _ _ _ (by show N + 1 ≠ _; omega)))).trans hc
          have k4 := far (x := ⟨F, 2, none⟩) hFl k2
          have kp4 := far (x := ⟨K, p, none⟩) hKl kp
          clear far
          go_wp2
          have hu8 := set3_block HN8.out (u := .int .u8 0) (v := .int .i64 n) (t := .int .i64 ((q : Int) - p))
          have hu9 := set3_other (show N ≠ N + 1 by omega) HN9.out (u := .int .u8 0) (v := .int .i64 n) (t := .int .i64 ((q : Int) - p))
          rw [hW4] at hu8 hu9
          rw [← bestV_of hp] at hu8
          have bW : Below N w W4 := by rw [← hW4]; exact (((BN.out.setCell (p := ⟨N + 1, 0, none⟩) (by simp) _).setCell (p := ⟨N + 1, 1, none⟩) (by simp) _).setCell (p := ⟨N + 1, 2, none⟩) (by simp) _)
          have hm := HH2.out.1
          have hm2 := (Plain.prevI_spec b p).2.1
          rw [HZ2.out] at HH2 hm hm2
          have BW := hid bW
          have U8 := hid hu8
          have U9 := hid hu9
          clear bW hu8 hu9 hW4
          go_roundw
          case rel => exact ⟨z2, (n, q - p), rfl, HH2, BW, U9, U8⟩
          case measure => simp [intOf]; omega
      · have hl2 : decide (t1 < n) = false := by simp; omega
        have hm0 := best_miss (by omega) HC.out hw HNN.out hl
        have hm2 := (Plain.prevI_spec b p).2.1
        have hm := hm0.1
        rw [HZ2.out] at hm0 hm hm2
        have HM := hid hm0
        clear hm0 hl
        go_wp2
        go_roundw
        case rel => exact ⟨z2, (t1, t2), rfl, HM, BN, HN9, HN8⟩
        case measure => simp [intOf]; omega
    · have hend := Plain.chain_end HC.out (by omega)
      have HE := hid hend
      clear hend
      by_cases c1 : 0 ≤ p
      · have d1 : decide ((0 : Int) ≤ p) = true := by simp; omega
        have d2 : decide ((q : Int) - p ≤ win) = false := by simp; omega
        have hp2 : p < q := HC.out.2.1
        clear c
        go_wp2
        have hu := set3_block HG0.out (u := .int .u8 0) (v := .int .i64 t1) (t := .int .i64 t2)
        refine bodyPost_ret (v := .agg #[.int .u8 0, .int .i64 t1, .int .i64 t2]) (results_cell_row rfl _ _ N 33 _ (0, 0) _ rfl hu Try.underlying33 rfl (by kernel_rfl)) rfl ⟨?_, ?_⟩
        · rw [← HE.out]; rfl
        · rw [HN.out]
          exact ((HB.out.setCell (p := ⟨N, 0, none⟩) (by simp) _).setCell (p := ⟨N, 1, none⟩) (by simp) _).setCell (p := ⟨N, 2, none⟩) (by simp) _
      · have d1 : decide ((0 : Int) ≤ p) = false := by simp; omega
        clear c c1
        go_wp2
        have hu := set3_block HG0.out (u := .int .u8 0) (v := .int .i64 t1) (t := .int .i64 t2)
        refine bodyPost_ret (v := .agg #[.int .u8 0, .int .i64 t1, .int .i64 t2]) (results_cell_row rfl _ _ N 33 _ (0, 0) _ rfl hu Try.underlying33 rfl (by kernel_rfl)) rfl ⟨?_, ?_⟩
        · rw [← HE.out]; rfl
        · rw [HN.out]
          exact ((HB.out.setCell (p := ⟨N, 0, none⟩) (by simp) _).setCell (p := ⟨N, 1, none⟩) (by simp) _).setCell (p := ⟨N, 2, none⟩) (by simp) _
end Go.Proofs.Ytaoodggdopdkeaa
