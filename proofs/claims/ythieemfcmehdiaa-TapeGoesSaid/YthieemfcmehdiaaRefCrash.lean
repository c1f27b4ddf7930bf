/- The document's Crash. -/
import Derived.Test.YthieemfcmehdiaaRefPut
import Derived.Test.YthieemfcmehdiaaCrash
namespace Go.Proofs.Ythieemfcmehdiaa
open Go.RowKit
set_option linter.unusedSimpArgs false
set_option linter.unusedVariables false
theorem used_tail {xs tl : List Thing} {n : Nat} {torn : Int} (h : tailOf xs[n]? torn = tl) : used (xs.take n) + used tl ≤ used xs := by
  by_cases ht : tl = []
  · subst ht; have := used_parts xs n; simp [used] at this ⊢; omega
  · obtain ⟨l, hx, _, _, rfl⟩ := tail_some h ht
    have hlt : n < xs.length := by rcases Nat.lt_or_ge n xs.length with h | h; exact h; rw [List.getElem?_eq_none h] at hx; cases hx
    have hxe : xs[n] = (false, l) := by rw [List.getElem?_eq_getElem hlt] at hx; exact Option.some.inj hx
    have h2 := used_parts xs n
    have h3 := used_cut hlt
    rw [hxe] at h3
    have h4 : used [(false, l.take (min torn.toNat (l.length - 1)))] = 8 + min (min torn.toNat (l.length - 1)) l.length := by simp [used, cost]
    have h5 : cost (false, l) = 8 + l.length := rfl
    omega
theorem step_cells {w : World} {T k : Nat} {xs : List Thing} {x : Thing} {B : Option Addr} {kB : Nat} {cs : List Value} (h : Cells w T (xs.take k) cs) (hx : xs[k]? = some x) (hB : BytesOut w T B kB x.2) : Cells w T (xs.take (k + 1)) (cs ++ [.bool x.1, .slice B x.2.length kB]) := by
  obtain ⟨hlt, rfl⟩ := List.getElem?_eq_some_iff.1 hx
  rw [List.take_succ_eq_append_getElem hlt]
  exact h.snoc hB
theorem crash_ref_end {w Wf : World} {T cap safe c c9 base : Nat} {xs ys : List Thing} {A A9 : Option Addr} {cs : List Value} (h : RefIs w T cap xs safe A c) (hcs : Cells w T ys cs) (hu : used ys ≤ used xs) (hTb : T < base)
    (m : Nat) (hm : ys.length = m) (o : Wf.ownsRow base 45 2 (.slice A9 m c9) m cs) (bw : Below w.heap.size w Wf) :
    ∃ A' c', Ending.returned (refV cap m m A9 c9) = .returned (refV cap ys.length ys.length A' c') ∧ RefIs Wf T cap ys ys.length A' c' ∧ Below w.heap.size w Wf := by
  subst hm
  obtain ⟨A', c', e, hi, hn, hle⟩ := (hcs.keep (Rest.below bw)).items o hTb
  cases e
  have h1 := h.2.2.1
  exact ⟨A9, c9, rfl, ⟨hi, hn, by omega, h.2.2.2.1, hle, Nat.le_refl _⟩, bw⟩
set_option maxHeartbeats 8000000 in
set_option maxRecDepth 100000 in
theorem crash_ref {w : World} {T cap safe c : Nat} {xs : List Thing} {A : Option Addr} (h : RefIs w T cap xs safe A c) (hT : T < w.heap.size) (keep torn : Int) (n : Nat) (hn : crashN safe xs.length keep = n) (tl : List Thing) (htl : tailOf xs[n]? torn = tl) :
    Calls Try.prog 29 #[refV cap xs.length safe A c, .int .i64 keep, .int .i64 torn] w fun e w' => ∃ A' c', e = .returned (refV cap (xs.take n ++ tl).length (xs.take n ++ tl).length A' c') ∧ RefIs w' T cap (xs.take n ++ tl) (xs.take n ++ tl).length A' c' ∧ Below w.heap.size w w' := by
  have hl := h.len
  have hs := h.2.2.2.2.2
  obtain ⟨W, hW⟩ : ∃ W, (w.alloc (.cells #[.int .i64 cap, .slice A xs.length c, .int .i64 safe] 29)).alloc (.cells #[.int .i64 0, .slice none 0 0, .int .i64 0] 29) = W := ⟨_, rfl⟩
  have bW : Below w.heap.size w W := by rw [← hW]; exact (below_new w _).alloc (by simp) _
  have g0 : W.heap[w.heap.size]? = some (.cells #[.int .i64 cap, .slice A xs.length c, .int .i64 safe] 29 (0, 0)) := by rw [← hW]; exact ((below_new _ _).block _ (by simp)).trans (block_new w _)
  have g2 : W.heap[w.heap.size + 1]? = some (.cells #[.int .i64 0, .slice none 0 0, .int .i64 0] 29 (0, 0)) := by
    rw [← hW]
    simpa using block_new (w.alloc (.cells #[.int .i64 cap, .slice A xs.length c, .int .i64 safe] 29)) (.cells #[.int .i64 0, .slice none 0 0, .int .i64 0] 29)
  have zs : W.heap.size = w.heap.size + 2 := by rw [← hW]; simp
  have HR := hid h
  have HW := hid hW
  have G0 := hid g0
  have G2 := hid g2
  have BW := hid bW
  have HTL := hid htl
  have HN := hid hn
  have ZS := hid zs
  have hnl : n ≤ xs.length := by unfold crashN at hn; omega
  have HUT := hid (used_tail htl)
  clear h hW bW g0 g2 htl hn zs
  obtain ⟨Y, hY⟩ : ∃ Y, xs.take n ++ tl = Y := ⟨_, rfl⟩
  rw [hY]
  have HY := hid hY
  clear hY
  go_enter Try.func29, Try.ntmps29
  go_wp2
  have hw := HW.out
  rw [hw]
  obtain ⟨G, hG⟩ : ∃ G, w.heap.size = G := ⟨_, rfl⟩
  rw [hG] at G0 G2 ZS hT ⊢
  have HGG := hid hG
  clear hw hG HW
  go_loopw [7, 8] (fun v i wr => ∃ (k : Nat) (cs : List Value), k ≤ n ∧ i = .int .i64 k ∧ Hid (Cells w T (xs.take k) cs) ∧ Hid (wr.ownsRow (G + 2) 45 2 v k cs) ∧ Hid (Below (G + 2) W wr)) (fun _ i _ => xs.length - (intOf i).toNat)
  case atStart => exact ⟨0, [], by omega, rfl, hid (Cells.nil _ _), hid ⟨rfl, .inl ⟨rfl, rfl⟩⟩, hid (Below.refl _ _)⟩
  case round =>
    obtain ⟨k, cs, hkn, rfl, HCS, HO, HB⟩ := hrel
    obtain ⟨wo, rfl⟩ : ∃ wo : World, wo = wr := ⟨_, rfl⟩
    have hg0 := (HB.out.block G (by omega)).trans G0.out
    have hg2 := (HB.out.block (G + 1) (by omega)).trans G2.out
    have k0 : wo.cell? ⟨G, 0, none⟩ = some (.int .i64 cap) := (cell_of_row wo _ 0 _ _ _ hg0).trans rfl
    have k1 : wo.cell? ⟨G, 1, none⟩ = some (.slice A xs.length c) := (cell_of_row wo _ 1 _ _ _ hg0).trans rfl
    have k2 : wo.cell? ⟨G, 2, none⟩ = some (.int .i64 safe) := (cell_of_row wo _ 2 _ _ _ hg0).trans rfl
    have HG2 := hid hg2
    have HWW : Hid (Below G w wo) := hid ((show Below G w W by have := BW.out; rw [HGG.out] at this; exact this).trans ⟨HB.out.os, HB.out.tape, HB.out.output, HB.out.size, fun q hq => HB.out.block q (by omega)⟩)
    have hsz : G + 2 ≤ wo.heap.size := by have := HB.out.size; have := ZS.out; omega
    clear hg0 hg2
    by_cases hlt : k < xs.length
    · have dl : decide (k < xs.length) = true := by simpa using hlt
      obtain ⟨ad, hA, hTT, hb, B, kB, hs2, hOO⟩ := HR.out.1 k hlt
      subst hA
      obtain ⟨x, hx⟩ : ∃ x, xs[k] = x := ⟨_, rfl⟩
      have HX : Hid (xs[k]? = some x) := hid (by rw [List.getElem?_eq_getElem hlt, hx])
      rw [hx] at hb hs2 hOO
      rw [add_one'] at hs2
      rw [Nat.mul_comm] at hb hs2
      have q0 := cell_below (show Below w.heap.size w wo by rw [HGG.out]; exact HWW.out) hb
      have q1 := cell_below (show Below w.heap.size w wo by rw [HGG.out]; exact HWW.out) hs2
      have HBO := hid hOO
      have hki : (k : Int) < (xs.length : Int) := by omega
      have hk0 : (0 : Int) ≤ (k : Int) := by omega
      clear hx hOO hb hs2
      have w1 : IntKind.i64.wrap ((k : Int) - safe) = (k : Int) - safe := IntWalk.i64_in _ (by omega)
      go_upto_region 6 with (fail)
      have bb := below_new wo (.cells #[.bool x.1, .slice B x.2.length kB] 45)
      have n0 : (wo.alloc (.cells #[.bool x.1, .slice B x.2.length kB] 45)).cell? ⟨wo.heap.size, 0, none⟩ = some (.bool x.1) := (cell_new wo _ 45 (0, 0) 0).trans rfl
      have n1 : (wo.alloc (.cells #[.bool x.1, .slice B x.2.length kB] 45)).cell? ⟨wo.heap.size, 1, none⟩ = some (.slice B x.2.length kB) := (cell_new wo _ 45 (0, 0) 1).trans rfl
      have ho5 := own_kept HO.out (Touch.of_below bb []) (by simp)
      have hw5 : Below G w _ := HWW.out.trans ⟨bb.os, bb.tape, bb.output, bb.size, fun q hq => bb.block q (by omega)⟩
      have hb5 := HB.out.trans ⟨bb.os, bb.tape, bb.output, bb.size, fun q hq => bb.block q (by omega)⟩
      have k05 := cell_below bb k0
      have k15 := cell_below bb k1
      have k25 := cell_below bb k2
      have hg25 := (bb.block _ (by omega)).trans HG2.out
      have hsz5 := Nat.le_trans hsz bb.size
      obtain ⟨W5, hW5⟩ : ∃ n, wo.alloc (.cells #[.bool x.1, .slice B x.2.length kB] 45) = n := ⟨_, rfl⟩
      rw [hW5] at n0 n1 ho5 hw5 hb5 k05 k15 k25 hg25 hsz5 ⊢
      obtain ⟨g5, hg5⟩ : ∃ g, wo.heap.size = g := ⟨_, rfl⟩
      have hgl5 : G + 2 ≤ g5 := by omega
      rw [hg5] at n0 n1 ⊢
      have HO5 := hid ho5
      have HW5 := hid hw5
      have HB5 := hid hb5
      have HG25 := hid hg25
      clear bb ho5 hw5 hb5 hg25 hW5 hg5 k0 k1 k2 q0 q1 HO HB HG2 HWW hsz
      by_cases hkn2 : k < n
      · by_cases hks : k < safe
        · have d1 : decide (k < safe) = true := by simpa using hks
          go_wp2_with (at_builtin; refine wpList_append_items rfl (.tmp 34) (.tmp 36) rfl (G + 2) _ k cs (by simp [Act.eval]) (own_kept HO5.out (Touch.of_below (below_new W5 _) []) (by simp)) (some ⟨W5.heap.size, 0, none⟩) 1 1 [.bool x.1, .slice B x.2.length kB] (by simp [Act.eval]) rfl (fun h => by cases h) (item_cells ((cell_new W5 #[.bool x.1, .slice B x.2.length kB] 45 (0, 0) 0).trans rfl) ((cell_new W5 #[.bool x.1, .slice B x.2.length kB] 45 (0, 0) 1).trans rfl)) (by intro u hu; simp at hu; rcases hu with rfl | rfl <;> rfl) (by omega) (by simp; omega) ?_)
          intro v6 W6 o6 gr6 ob6
          have b6 := ((Below.refl (G + 2) W5).alloc hsz5 (.cells #[.bool x.1, .slice B x.2.length kB] 45)).grown gr6 (by simp; omega) (fun q hq => (HO5.out.lt q hq).1)
          have O6 := hid o6
          have B6 := hid b6
          clear o6 gr6 ob6 b6
          go_wp2_with fail
          go_roundw
          case rel => exact ⟨k + 1, _, by omega, by go_num, hid (step_cells HCS.out HX.out HBO.out), O6, hid (HB5.out.trans ⟨B6.out.os, B6.out.tape, B6.out.output, B6.out.size, B6.out.block⟩)⟩
          case measure => simp [intOf]; omega
        · have d1 : decide (k < safe) = false := by simpa using hks
          have hkp : (k : Int) - safe < keep := by have := HN.out; unfold crashN at this; omega
          have d2 : decide ((k : Int) - safe < keep) = true := by simpa using hkp
          go_wp2_with (at_builtin; refine wpList_append_items rfl (.tmp 34) (.tmp 36) rfl (G + 2) _ k cs (by simp [Act.eval]) (own_kept HO5.out (Touch.of_below (below_new W5 _) []) (by simp)) (some ⟨W5.heap.size, 0, none⟩) 1 1 [.bool x.1, .slice B x.2.length kB] (by simp [Act.eval]) rfl (fun h => by cases h) (item_cells ((cell_new W5 #[.bool x.1, .slice B x.2.length kB] 45 (0, 0) 0).trans rfl) ((cell_new W5 #[.bool x.1, .slice B x.2.length kB] 45 (0, 0) 1).trans rfl)) (by intro u hu; simp at hu; rcases hu with rfl | rfl <;> rfl) (by omega) (by simp; omega) ?_)
          intro v6 W6 o6 gr6 ob6
          have b6 := ((Below.refl (G + 2) W5).alloc hsz5 (.cells #[.bool x.1, .slice B x.2.length kB] 45)).grown gr6 (by simp; omega) (fun q hq => (HO5.out.lt q hq).1)
          have O6 := hid o6
          have B6 := hid b6
          clear o6 gr6 ob6 b6
          go_wp2_with fail
          go_roundw
          case rel => exact ⟨k + 1, _, by omega, by go_num, hid (step_cells HCS.out HX.out HBO.out), O6, hid (HB5.out.trans ⟨B6.out.os, B6.out.tape, B6.out.output, B6.out.size, B6.out.block⟩)⟩
          case measure => simp [intOf]; omega
      · have hkn3 : k = n := by omega
        subst hkn3
        have hks : ¬ k < safe := by have := HN.out; unfold crashN at this; omega
        have d1 : decide (k < safe) = false := by simpa using hks
        have hkp : ¬ (k : Int) - safe < keep := by have := HN.out; unfold crashN at this; omega
        have d2 : decide ((k : Int) - safe < keep) = false := by simpa using hkp
        have htl := HTL.out
        rw [HX.out] at htl
        obtain ⟨mk, l⟩ := x
        simp only at n0 n1
        cases mk with
        | true =>
          have e1 : tl = [] := by rw [← htl]; rfl
          subst e1
          clear htl
          have hys : Y.length = k := by rw [← HY.out]; simp; omega
          have hcy : Cells w T Y cs := by rw [← HY.out, List.append_nil]; exact HCS.out
          have hle : used Y ≤ used xs := by rw [← HY.out, List.append_nil]; have := used_parts xs k; omega
          have HYS := hid hys
          have HCY := hid hcy
          have HLE := hid hle
          clear hys hcy hle
          obtain ⟨A9, c9, rfl⟩ := own_form HO5.out
          have m0 : W5.cell? ⟨G + 1, 0, none⟩ = some (.int .i64 0) := (cell_of_row W5 _ 0 _ _ _ HG25.out).trans rfl
          have m1 : W5.cell? ⟨G + 1, 1, none⟩ = some (.slice none 0 0) := (cell_of_row W5 _ 1 _ _ _ HG25.out).trans rfl
          have m2 : W5.cell? ⟨G + 1, 2, none⟩ = some (.int .i64 0) := (cell_of_row W5 _ 2 _ _ _ HG25.out).trans rfl
          have mf0 : W5.frozen? ⟨G + 1, 0, none⟩ = false := frozen_of_row W5 _ 0 _ _ HG25.out
          have mf1 : W5.frozen? ⟨G + 1, 1, none⟩ = false := frozen_of_row W5 _ 1 _ _ HG25.out
          have mf2 : W5.frozen? ⟨G + 1, 2, none⟩ = false := frozen_of_row W5 _ 2 _ _ HG25.out
          go_wp2_with fail
          have h93 := three_set HG25.out (.int .i64 cap) (.slice A9 k c9) (.int .i64 k)
          have o21 := own_kept HO5.out (three_touch W5 (G + 1) (.int .i64 cap) (.slice A9 k c9) (.int .i64 k)) (fun g hg => by have := (HO5.out.lt g hg).1; simp; omega)
          have b93 := Touch.below HW5.out (by have := HW5.out.size; have := HGG.out; omega) (three_touch W5 (G + 1) (.int .i64 cap) (.slice A9 k c9) (.int .i64 k)) (by intro q hq; simp at hq; rw [hq]; omega)
          refine bodyPost_ret (results_cell_row rfl _ _ (G + 1) 29 _ (0, 0) _ rfl h93 Try.underlying29 rfl (by kernel_rfl)) rfl ?_
          exact crash_ref_end HR.out HCY.out HLE.out (show T < G + 2 by omega) _ HYS.out o21 (by rw [HGG.out]; exact b93)
        | false =>
          by_cases ht : 0 < torn
          · have dt : decide ((0 : Int) < torn) = true := by simpa using ht
            by_cases hle0 : l = []
            · have e1 : tl = [] := by rw [← htl]; simp [tailOf, hle0]
              subst e1
              subst hle0
              clear htl
              have hys : Y.length = k := by rw [← HY.out]; simp; omega
              have hcy : Cells w T Y cs := by rw [← HY.out, List.append_nil]; exact HCS.out
              have hle : used Y ≤ used xs := by rw [← HY.out, List.append_nil]; have := used_parts xs k; omega
              have HYS := hid hys
              have HCY := hid hcy
              have HLE := hid hle
              clear hys hcy hle
              obtain ⟨A9, c9, rfl⟩ := own_form HO5.out
              have m0 : W5.cell? ⟨G + 1, 0, none⟩ = some (.int .i64 0) := (cell_of_row W5 _ 0 _ _ _ HG25.out).trans rfl
              have m1 : W5.cell? ⟨G + 1, 1, none⟩ = some (.slice none 0 0) := (cell_of_row W5 _ 1 _ _ _ HG25.out).trans rfl
              have m2 : W5.cell? ⟨G + 1, 2, none⟩ = some (.int .i64 0) := (cell_of_row W5 _ 2 _ _ _ HG25.out).trans rfl
              have mf0 : W5.frozen? ⟨G + 1, 0, none⟩ = false := frozen_of_row W5 _ 0 _ _ HG25.out
              have mf1 : W5.frozen? ⟨G + 1, 1, none⟩ = false := frozen_of_row W5 _ 1 _ _ HG25.out
              have mf2 : W5.frozen? ⟨G + 1, 2, none⟩ = false := frozen_of_row W5 _ 2 _ _ HG25.out
              go_wp2_with fail
              have h93 := three_set HG25.out (.int .i64 cap) (.slice A9 k c9) (.int .i64 k)
              have o21 := own_kept HO5.out (three_touch W5 (G + 1) (.int .i64 cap) (.slice A9 k c9) (.int .i64 k)) (fun g hg => by have := (HO5.out.lt g hg).1; simp; omega)
              have b93 := Touch.below HW5.out (by have := HW5.out.size; have := HGG.out; omega) (three_touch W5 (G + 1) (.int .i64 cap) (.slice A9 k c9) (.int .i64 k)) (by intro q hq; simp at hq; rw [hq]; omega)
              refine bodyPost_ret (results_cell_row rfl _ _ (G + 1) 29 _ (0, 0) _ rfl h93 Try.underlying29 rfl (by kernel_rfl)) rfl ?_
              exact crash_ref_end HR.out HCY.out HLE.out (show T < G + 2 by omega) _ HYS.out o21 (by rw [HGG.out]; exact b93)
            · have hpos : 0 < l.length := by cases l with | nil => exact absurd rfl hle0 | cons => simp
              have htp : [(false, l.take (min torn.toNat (l.length - 1)))] = tl := by rw [← htl]; simp [tailOf, ht, hle0]
              have HTP := hid htp
              have dp : decide (0 < l.length) = true := by simpa using hpos
              have hll : l.length ≤ kB := HBO.out.2.1.2
              have hl20 : l.length ≤ 20000000 := by
                have h1 := HR.out.2.2.1
                have h2 := HR.out.2.2.2.1
                have h3 := used_mem (List.mem_of_getElem? HX.out)
                have h4 : cost (false, l) = 8 + l.length := rfl
                omega
              have w8 : IntKind.i64.wrap ((l.length : Int) - 1) = (l.length : Int) - 1 := IntWalk.i64_in _ (by omega)
              clear htl htp hle0
              by_cases hc : (l.length : Int) - 1 < torn
              · obtain ⟨m, hm⟩ : ∃ m : Nat, l.length - 1 = m := ⟨_, rfl⟩
                have hmm : min torn.toNat (l.length - 1) = m := by omega
                have htl2 := HTP.out
                rw [hmm] at htl2
                subst htl2
                have hml : m < l.length := by omega
                have HM := hid hm
                have HML := hid hml
                clear hm hmm hml
                go_wp2_with (at_builtin; refine wpList_append_items rfl (.tmp 51) (.tmp 62) rfl (G + 2) _ k cs (by simp [Act.eval]) (own_kept HO5.out (Touch.of_below (below_new W5 _) []) (by simp)) (some ⟨W5.heap.size, 0, none⟩) 1 1 [.bool false, .slice B (l.length - 1) kB] (by simp [Act.eval]) rfl (fun h => by cases h) (item_cells ((cell_new W5 #[.bool false, .slice B (l.length - 1) kB] 45 (0, 0) 0).trans rfl) ((cell_new W5 #[.bool false, .slice B (l.length - 1) kB] 45 (0, 0) 1).trans rfl)) (by intro u hu; simp at hu; rcases hu with rfl | rfl <;> rfl) (by omega) (by simp; omega) ?_)
                intro v6 W6 o6 gr6 ob6
                have b6 := ((Below.refl (G + 2) W5).alloc hsz5 (.cells #[.bool false, .slice B (l.length - 1) kB] 45)).grown gr6 (by simp; omega) (fun q hq => (HO5.out.lt q hq).1)
                rw [HM.out] at o6
                obtain ⟨kk, hkk⟩ : ∃ kk, k + 1 = kk := ⟨_, rfl⟩
                rw [hkk] at o6
                have HG6 := hid ((b6.block _ (by omega)).trans HG25.out)
                have HW6 : Hid (Below G w W6) := hid (HW5.out.trans ⟨b6.os, b6.tape, b6.output, b6.size, fun q hq => b6.block q (by omega)⟩)
                have kb6 : W6.cell? ⟨G, 0, none⟩ = some (.int .i64 cap) := (World.cell?_of_block (w := W5) (b6.block G (by omega))).trans k05
                have O6 := hid o6
                have hbt := bytes_take HBO.out m (by show m ≤ l.length; exact Nat.le_of_lt HML.out)
                have hlt6 : (l.take m).length = m := by have := HML.out; simp; omega
                have hcy := HCS.out.snoc (b := false) hbt
                rw [hlt6] at hcy
                have HYS := hid (show Y.length = kk by rw [← HY.out]; simp; omega)
                have HCY : Hid (Cells w T Y _) := hid (by rw [← HY.out]; exact hcy)
                have hle : used Y ≤ used xs := by rw [← HY.out, used_append]; exact HUT.out
                have HLE := hid hle
                clear o6 gr6 ob6 b6 hkk hbt hlt6 hcy hle k05 k15 k25 n0 n1
                obtain ⟨A9, c9, rfl⟩ := own_form O6.out
                have m0 : W6.cell? ⟨G + 1, 0, none⟩ = some (.int .i64 0) := (cell_of_row W6 _ 0 _ _ _ HG6.out).trans rfl
                have m1 : W6.cell? ⟨G + 1, 1, none⟩ = some (.slice none 0 0) := (cell_of_row W6 _ 1 _ _ _ HG6.out).trans rfl
                have m2 : W6.cell? ⟨G + 1, 2, none⟩ = some (.int .i64 0) := (cell_of_row W6 _ 2 _ _ _ HG6.out).trans rfl
                have mf0 : W6.frozen? ⟨G + 1, 0, none⟩ = false := frozen_of_row W6 _ 0 _ _ HG6.out
                have mf1 : W6.frozen? ⟨G + 1, 1, none⟩ = false := frozen_of_row W6 _ 1 _ _ HG6.out
                have mf2 : W6.frozen? ⟨G + 1, 2, none⟩ = false := frozen_of_row W6 _ 2 _ _ HG6.out
                go_wp2_with fail
                have h93 := three_set HG6.out (.int .i64 cap) (.slice A9 kk c9) (.int .i64 kk)
                have o21 := own_kept O6.out (three_touch W6 (G + 1) (.int .i64 cap) (.slice A9 kk c9) (.int .i64 kk)) (fun g hg => by have := (O6.out.lt g hg).1; simp; omega)
                have b93 := Touch.below HW6.out (by have := HW6.out.size; have := HGG.out; omega) (three_touch W6 (G + 1) (.int .i64 cap) (.slice A9 kk c9) (.int .i64 kk)) (by intro q hq; simp at hq; rw [hq]; omega)
                refine bodyPost_ret (results_cell_row rfl _ _ (G + 1) 29 _ (0, 0) _ rfl h93 Try.underlying29 rfl (by kernel_rfl)) rfl ?_
                exact crash_ref_end HR.out HCY.out HLE.out (show T < G + 2 by omega) _ HYS.out o21 (by rw [HGG.out]; exact b93)
              · obtain ⟨m, hm⟩ : ∃ m : Nat, torn.toNat = m := ⟨_, rfl⟩
                have hmm : min torn.toNat (l.length - 1) = m := by omega
                have htl2 := HTP.out
                rw [hmm] at htl2
                subst htl2
                have hml : m < l.length := by omega
                have HM := hid hm
                have HML := hid hml
                clear hm hmm hml
                go_wp2_with (at_builtin; refine wpList_append_items rfl (.tmp 51) (.tmp 62) rfl (G + 2) _ k cs (by simp [Act.eval]) (own_kept HO5.out (Touch.of_below (below_new W5 _) []) (by simp)) (some ⟨W5.heap.size, 0, none⟩) 1 1 [.bool false, .slice B (torn.toNat) kB] (by simp [Act.eval]) rfl (fun h => by cases h) (item_cells ((cell_new W5 #[.bool false, .slice B (torn.toNat) kB] 45 (0, 0) 0).trans rfl) ((cell_new W5 #[.bool false, .slice B (torn.toNat) kB] 45 (0, 0) 1).trans rfl)) (by intro u hu; simp at hu; rcases hu with rfl | rfl <;> rfl) (by omega) (by simp; omega) ?_)
                intro v6 W6 o6 gr6 ob6
                have b6 := ((Below.refl (G + 2) W5).alloc hsz5 (.cells #[.bool false, .slice B (torn.toNat) kB] 45)).grown gr6 (by simp; omega) (fun q hq => (HO5.out.lt q hq).1)
                rw [HM.out] at o6
                obtain ⟨kk, hkk⟩ : ∃ kk, k + 1 = kk := ⟨_, rfl⟩
                rw [hkk] at o6
                have HG6 := hid ((b6.block _ (by omega)).trans HG25.out)
                have HW6 : Hid (Below G w W6) := hid (HW5.out.trans ⟨b6.os, b6.tape, b6.output, b6.size, fun q hq => b6.block q (by omega)⟩)
                have kb6 : W6.cell? ⟨G, 0, none⟩ = some (.int .i64 cap) := (World.cell?_of_block (w := W5) (b6.block G (by omega))).trans k05
                have O6 := hid o6
                have hbt := bytes_take HBO.out m (by show m ≤ l.length; exact Nat.le_of_lt HML.out)
                have hlt6 : (l.take m).length = m := by have := HML.out; simp; omega
                have hcy := HCS.out.snoc (b := false) hbt
                rw [hlt6] at hcy
                have HYS := hid (show Y.length = kk by rw [← HY.out]; simp; omega)
                have HCY : Hid (Cells w T Y _) := hid (by rw [← HY.out]; exact hcy)
                have hle : used Y ≤ used xs := by rw [← HY.out, used_append]; exact HUT.out
                have HLE := hid hle
                clear o6 gr6 ob6 b6 hkk hbt hlt6 hcy hle k05 k15 k25 n0 n1
                obtain ⟨A9, c9, rfl⟩ := own_form O6.out
                have m0 : W6.cell? ⟨G + 1, 0, none⟩ = some (.int .i64 0) := (cell_of_row W6 _ 0 _ _ _ HG6.out).trans rfl
                have m1 : W6.cell? ⟨G + 1, 1, none⟩ = some (.slice none 0 0) := (cell_of_row W6 _ 1 _ _ _ HG6.out).trans rfl
                have m2 : W6.cell? ⟨G + 1, 2, none⟩ = some (.int .i64 0) := (cell_of_row W6 _ 2 _ _ _ HG6.out).trans rfl
                have mf0 : W6.frozen? ⟨G + 1, 0, none⟩ = false := frozen_of_row W6 _ 0 _ _ HG6.out
                have mf1 : W6.frozen? ⟨G + 1, 1, none⟩ = false := frozen_of_row W6 _ 1 _ _ HG6.out
                have mf2 : W6.frozen? ⟨G + 1, 2, none⟩ = false := frozen_of_row W6 _ 2 _ _ HG6.out
                go_wp2_with fail
                have h93 := three_set HG6.out (.int .i64 cap) (.slice A9 kk c9) (.int .i64 kk)
                have o21 := own_kept O6.out (three_touch W6 (G + 1) (.int .i64 cap) (.slice A9 kk c9) (.int .i64 kk)) (fun g hg => by have := (O6.out.lt g hg).1; simp; omega)
                have b93 := Touch.below HW6.out (by have := HW6.out.size; have := HGG.out; omega) (three_touch W6 (G + 1) (.int .i64 cap) (.slice A9 kk c9) (.int .i64 kk)) (by intro q hq; simp at hq; rw [hq]; omega)
                refine bodyPost_ret (results_cell_row rfl _ _ (G + 1) 29 _ (0, 0) _ rfl h93 Try.underlying29 rfl (by kernel_rfl)) rfl ?_
                exact crash_ref_end HR.out HCY.out HLE.out (show T < G + 2 by omega) _ HYS.out o21 (by rw [HGG.out]; exact b93)
          · have dt : decide ((0 : Int) < torn) = false := by simpa using ht
            have e1 : tl = [] := by rw [← htl]; simp [tailOf, ht]
            subst e1
            clear htl
            have hys : Y.length = k := by rw [← HY.out]; simp; omega
            have hcy : Cells w T Y cs := by rw [← HY.out, List.append_nil]; exact HCS.out
            have hle : used Y ≤ used xs := by rw [← HY.out, List.append_nil]; have := used_parts xs k; omega
            have HYS := hid hys
            have HCY := hid hcy
            have HLE := hid hle
            clear hys hcy hle
            obtain ⟨A9, c9, rfl⟩ := own_form HO5.out
            have m0 : W5.cell? ⟨G + 1, 0, none⟩ = some (.int .i64 0) := (cell_of_row W5 _ 0 _ _ _ HG25.out).trans rfl
            have m1 : W5.cell? ⟨G + 1, 1, none⟩ = some (.slice none 0 0) := (cell_of_row W5 _ 1 _ _ _ HG25.out).trans rfl
            have m2 : W5.cell? ⟨G + 1, 2, none⟩ = some (.int .i64 0) := (cell_of_row W5 _ 2 _ _ _ HG25.out).trans rfl
            have mf0 : W5.frozen? ⟨G + 1, 0, none⟩ = false := frozen_of_row W5 _ 0 _ _ HG25.out
            have mf1 : W5.frozen? ⟨G + 1, 1, none⟩ = false := frozen_of_row W5 _ 1 _ _ HG25.out
            have mf2 : W5.frozen? ⟨G + 1, 2, none⟩ = false := frozen_of_row W5 _ 2 _ _ HG25.out
            go_wp2_with fail
            have h93 := three_set HG25.out (.int .i64 cap) (.slice A9 k c9) (.int .i64 k)
            have o21 := own_kept HO5.out (three_touch W5 (G + 1) (.int .i64 cap) (.slice A9 k c9) (.int .i64 k)) (fun g hg => by have := (HO5.out.lt g hg).1; simp; omega)
            have b93 := Touch.below HW5.out (by have := HW5.out.size; have := HGG.out; omega) (three_touch W5 (G + 1) (.int .i64 cap) (.slice A9 k c9) (.int .i64 k)) (by intro q hq; simp at hq; rw [hq]; omega)
            refine bodyPost_ret (results_cell_row rfl _ _ (G + 1) 29 _ (0, 0) _ rfl h93 Try.underlying29 rfl (by kernel_rfl)) rfl ?_
            exact crash_ref_end HR.out HCY.out HLE.out (show T < G + 2 by omega) _ HYS.out o21 (by rw [HGG.out]; exact b93)
    · have dl : decide (k < xs.length) = false := by simpa using hlt
      have hkn3 : k = n := by omega
      subst hkn3
      have e1 : tl = [] := by rw [← HTL.out, List.getElem?_eq_none (by omega)]; rfl
      subst e1
      have hys : Y.length = k := by rw [← HY.out]; simp; omega
      have hcy : Cells w T Y cs := by rw [← HY.out, List.append_nil]; exact HCS.out
      have hle : used Y ≤ used xs := by rw [← HY.out, List.append_nil]; have := used_parts xs k; omega
      have HYS := hid hys
      have HCY := hid hcy
      have HLE := hid hle
      clear hys hcy hle
      obtain ⟨A9, c9, rfl⟩ := own_form HO.out
      have m0 : wo.cell? ⟨G + 1, 0, none⟩ = some (.int .i64 0) := (cell_of_row wo _ 0 _ _ _ HG2.out).trans rfl
      have m1 : wo.cell? ⟨G + 1, 1, none⟩ = some (.slice none 0 0) := (cell_of_row wo _ 1 _ _ _ HG2.out).trans rfl
      have m2 : wo.cell? ⟨G + 1, 2, none⟩ = some (.int .i64 0) := (cell_of_row wo _ 2 _ _ _ HG2.out).trans rfl
      have mf0 : wo.frozen? ⟨G + 1, 0, none⟩ = false := frozen_of_row wo _ 0 _ _ HG2.out
      have mf1 : wo.frozen? ⟨G + 1, 1, none⟩ = false := frozen_of_row wo _ 1 _ _ HG2.out
      have mf2 : wo.frozen? ⟨G + 1, 2, none⟩ = false := frozen_of_row wo _ 2 _ _ HG2.out
      go_wp2_with fail
      have h93 := three_set HG2.out (.int .i64 cap) (.slice A9 k c9) (.int .i64 k)
      have o21 := own_kept HO.out (three_touch wo (G + 1) (.int .i64 cap) (.slice A9 k c9) (.int .i64 k)) (fun g hg => by have := (HO.out.lt g hg).1; simp; omega)
      have b93 := Touch.below HWW.out (by have := HWW.out.size; have := HGG.out; omega) (three_touch wo (G + 1) (.int .i64 cap) (.slice A9 k c9) (.int .i64 k)) (by intro q hq; simp at hq; rw [hq]; omega)
      refine bodyPost_ret (results_cell_row rfl _ _ (G + 1) 29 _ (0, 0) _ rfl h93 Try.underlying29 rfl (by kernel_rfl)) rfl ?_
      exact crash_ref_end HR.out HCY.out HLE.out (show T < G + 2 by omega) _ HYS.out o21 (by rw [HGG.out]; exact b93)
end Go.Proofs.Ythieemfcmehdiaa
