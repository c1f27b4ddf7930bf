/- TapeGoes (func 4): the walk: for every input it returns true. -/
import Derived.Test.YthieemfcmehdiaaSteps
import Derived.Test.YthieemfcmehdiaaSameT
import Derived.Test.YthieemfcmehdiaaSame
import Derived.Test.YthieemfcmehdiaaGoesBase
namespace Go.Proofs.Ythieemfcmehdiaa
open Go.RowKit Go.Shelf
attribute [local go_sem] Oper.semAt_some
set_option linter.unusedSimpArgs false
set_option linter.unusedVariables false
set_option maxHeartbeats 4000000 in
set_option maxRecDepth 100000 in
theorem goes_out {w : World} {D : Option Addr} {ds : List Step} {cD : Nat} (h : ReadsD w D ds) (cp : Int) (m : Nat) (hn : cp < 0 ∨ 16777216 < cp) :
    Calls Try.prog 4 #[.int .i64 cp, .slice D ds.length cD, .int .u8 m] w fun e w' => e = .returned (.bool true) ∧ Below w.heap.size w w' := by
  have HN := hid hn
  clear h hn
  obtain ⟨w0, hw0⟩ : ∃ w0, (w.alloc (.cells #[.int .u8 m] 5)).alloc (.cells #[.bool false] 4) = w0 := ⟨_, rfl⟩
  have B0 := hid (boxes_below hw0)
  have R0 := hid (boxes_res hw0)
  have HW := hid hw0
  clear hw0
  go_enter Try.func4, Try.ntmps4
  go_wp2_with fail
  rw [HW.out]
  refine (new_no cp w0 HN.out).mono ?_
  rintro e w1 ⟨rfl, rfl⟩
  go_wp2_with fail
  refine (awake_any _).mono ?_
  rintro e w4 ⟨rfl, b4⟩
  have hr4 := (b4.block _ (Array.getElem?_eq_some_iff.1 R0.out).1).trans R0.out
  have hcr4 : w4.cell? ⟨w.heap.size + 1, 0, none⟩ = some (.bool false) := (cell_of_row w4 _ 0 _ _ _ hr4).trans rfl
  have hfr4 : w4.frozen? ⟨w.heap.size + 1, 0, none⟩ = false := frozen_of_row w4 _ 0 _ _ hr4
  have B4 := hid (below_trans B0.out b4)
  clear b4 hr4
  go_wp2
  obtain ⟨q1, q2⟩ := res_end B4.out hcr4
  exact bodyPost_ret (v := .bool true) (by simp [results, Try.f4, go_sem, q1]) rfl ⟨rfl, q2⟩
set_option maxHeartbeats 16000000 in
set_option maxRecDepth 100000 in
theorem goes_in {w : World} {D : Option Addr} {ds : List Step} {cD : Nat} (h : ReadsD w D ds) (n m : Nat) (hm : m ≤ 255) (hn : n ≤ 16777216) :
    Calls Try.prog 4 #[.int .i64 (n : Int), .slice D ds.length cD, .int .u8 m] w fun e w' => e = .returned (.bool true) ∧ Below w.heap.size w w' := by
  obtain ⟨w0, hw0⟩ : ∃ w0, (w.alloc (.cells #[.int .u8 m] 5)).alloc (.cells #[.bool false] 4) = w0 := ⟨_, rfl⟩
  have bb0 := boxes_below hw0
  have B0 := hid bb0
  have R0 := hid (boxes_res hw0)
  have M0 := hid (boxes_stop hw0)
  have Z0 := hid (boxes_size hw0)
  have HW0 := hid hw0
  have H := hid (h.below bb0)
  have hl := h.1
  clear h hw0 bb0
  refine (callsIn_wide (n := 9)).1 (callsIn_of_wp_marks Try.func4 rfl trivial ?_ rfl)
  simp only [Try.ntmps4, List.size_toArray, List.length_cons, List.length_nil, Nat.reduceAdd, Nat.reduceSub, Array.replicate_succ, Array.replicate_zero, List.push_toArray, List.append_toArray, List.nil_append, List.cons_append]
  refine wpIn_wide.2 ?_
  go_wp2_with fail
  rw [HW0.out]
  refine (new_yes n w0 hn).mono ?_
  rintro e w1 ⟨rfl, hw1⟩
  have h1 := tape_new w0 n hn
  rw [← hw1] at h1
  have b1 : Below w0.heap.size w0 w1 := by rw [hw1]; exact below_new _ _
  have H1 := hid h1
  have B1 := hid b1
  have D1 := hid (H.out.below b1)
  have S1 : Hid (w1.heap.size = w0.heap.size + 1) := hid (by rw [hw1]; simp)
  clear hw1 h1 b1
  go_wp2_with fail
  refine (few_any D1.out).mono ?_
  rintro e w2 ⟨⟨bb, rfl, hbb⟩, rfl⟩
  cases bb with
  | false =>
    go_wp2_with fail
    refine (awake_any _).mono ?_
    rintro e w3 ⟨rfl, b3⟩
    have b30 := below_trans B1.out b3
    have hr3 := (b30.block _ (Array.getElem?_eq_some_iff.1 R0.out).1).trans R0.out
    have hcr3 : w3.cell? ⟨w.heap.size + 1, 0, none⟩ = some (.bool false) := (cell_of_row w3 _ 0 _ _ _ hr3).trans rfl
    have hfr3 : w3.frozen? ⟨w.heap.size + 1, 0, none⟩ = false := frozen_of_row w3 _ 0 _ _ hr3
    have B3 := hid (below_trans B0.out b30)
    clear b3 b30 hr3
    go_wp2
    obtain ⟨q1, q2⟩ := res_end B3.out hcr3
    exact ⟨.bool true, by simp [results, Try.f4, go_sem, q1], rfl, q2⟩
  | true =>
    have HF := hid (hbb rfl)
    clear hbb
    go_wp2_with fail
    have q := block_new w2 (.cells #[.int .i64 n, .slice none 0 0, .int .i64 0] 29)
    have bb := below_new w2 (.cells #[.int .i64 n, .slice none 0 0, .int .i64 0] 29)
    have h2 := H1.out.below bb
    have bT := hid (below_trans B1.out bb)
    have hTG : w0.heap.size < w2.heap.size := by have := S1.out; omega
    obtain ⟨W, hW⟩ : ∃ x, w2.alloc (.cells #[.int .i64 n, .slice none 0 0, .int .i64 0] 29) = x := ⟨_, rfl⟩
    rw [hW] at q bb h2 bT ⊢
    obtain ⟨G, hG⟩ : ∃ G, w2.heap.size = G := ⟨_, rfl⟩
    rw [hG] at q hTG ⊢
    have DW := hid (fun i hi => H.out.out (i := i) bT.out hi)
    have RW := hid (H.out.below bT.out)
    obtain ⟨T, hT⟩ : ∃ T, w0.heap.size = T := ⟨_, rfl⟩
    have HTT := hid hT
    rw [hT] at h2 bT DW hTG ⊢
    have B2 := hid (both_new h2 hn q)
    have HB200 := hid HF.out.2
    clear hW hG hT q bb h2 HF
    go_loopw [29] (fun i wr => ∃ k : Nat, k ≤ ds.length ∧ i = .int .i64 k ∧ Hid (Both T G n wr) ∧ Hid (Below T w0 wr) ∧ Hid (T ≤ wr.heap.size)) (fun i _ => ds.length - (intOf i).toNat)
    case atStart => exact ⟨0, by omega, rfl, B2, bT, hid (by have := bT.out.size; have := HTT.out; omega)⟩
    case round =>
      obtain ⟨k, hk, rfl, HB, HW, HS⟩ := hrel
      obtain ⟨wo, rfl⟩ : ∃ wo : World, wo = wr := ⟨_, rfl⟩
      obtain ⟨ys, s, A, c, A2, c2, ht, hr, hg, hmk⟩ := HB.out
      by_cases hlt : k < ds.length
      · have dl : decide (k < ds.length) = true := by simpa using hlt
        have bwo : Below w0.heap.size w0 wo := by rw [HTT.out]; exact HW.out
        obtain ⟨ad, rfl, a0, a1, a2, a3, _⟩ := (H.out.below bwo).2 k hlt
        have hbo := H.out.out bwo k hlt
        rw [HTT.out] at hbo
        have hir := in_round ht hr hg hbo (HB200.out k hlt) hmk
        obtain ⟨x, hx⟩ : ∃ x, ds[k] = x := ⟨_, rfl⟩
        rw [hx] at a0 a1 a2 a3 hir
        have hki : (k : Int) < (ds.length : Int) := by omega
        have hk0 : (0 : Int) ≤ (k : Int) := by omega
        have HIR := hid hir
        clear hx hbo ht hr hg bwo hir hmk
        go_upto_region 8 with (fail)
        obtain ⟨W5, hW5⟩ : ∃ W5, wo.alloc (.cells #[.int .i64 x.verb, .int .i64 x.n, .int .i64 x.m, .slice x.B x.l.length x.k] 32) = W5 := ⟨_, rfl⟩
        have HW5 := hid hW5
        rw [hW5] at HIR ⊢
        obtain ⟨D5, hD5⟩ : ∃ D5, wo.heap.size = D5 := ⟨_, rfl⟩
        have HD5 := hid hD5
        rw [hD5] at HIR ⊢
        have r0 := HIR.out.r0
        have r1 := HIR.out.r1
        have r2 := HIR.out.r2
        have d0 := HIR.out.d0
        have d1 := HIR.out.d1
        have d2 := HIR.out.d2
        have d3 := HIR.out.d3
        clear hW5 hD5 a0 a1 a2 a3
        go_wp2_with fail
        refine HIR.out.does.mono ?_
        rintro e w6 ⟨ys', s', hd⟩
        obtain ⟨A3, c3, rfl, hbx, t6⟩ := box_of HIR.out hd (Nat.ne_of_lt hTG)
        have f6 := hbx.cells.1
        have g60 := hbx.cells.2.1
        have g61 := hbx.cells.2.2.1
        have g62 := hbx.cells.2.2.2
        have b7 := fun x y z => below_next _ HW.out HS.out (by rw [HW5.out]; exact t6) (Nat.le_of_lt hTG) x y z
        have n7 := hbx.next (Nat.ne_of_lt hTG)
        obtain ⟨v60, g60⟩ := g60
        obtain ⟨v61, g61⟩ := g61
        obtain ⟨v62, g62⟩ := g62
        have f60 := f6 0
        have f61 := f6 1
        have f62 := f6 2
        have hs7 : T ≤ (((w6.setCell ⟨G, 0, none⟩ (.int .i64 n)).setCell ⟨G, 1, none⟩ (.slice A3 ys'.length c3)).setCell ⟨G, 2, none⟩ (.int .i64 s')).heap.size := by
          have h1 := HIR.out.t.lt
          have h2 := t6.size
          simp
          omega
        have B7 := hid b7
        have N7 := hid n7
        have HS7 := hid hs7
        clear b7 n7 hs7 hbx hd t6 f6
        go_wp2_with fail
        go_roundw
        case rel => exact ⟨k + 1, by omega, by go_num, N7, hid (B7.out _ _ _), HS7⟩
        case measure => simp [intOf]; omega
      · have dl : decide (k < ds.length) = false := by simpa using hlt
        have HT := hid ht
        have HR := hid hr
        have HG := hid hg
        have hS := HS.out
        have hy := ht.len
        have hTs := ht.lt
        clear ht hr hg hmk H HB200 H1 B1 D1 S1 DW RW B2 HB HS bT
        go_wp2_with fail
        refine (all_any (some ⟨T, 0, none⟩) _).mono ?_
        rintro e w3 ⟨rfl, rfl⟩
        go_wp2_with fail
        obtain ⟨N, hN⟩ : ∃ N, wo.heap.size = N := ⟨_, rfl⟩
        have gi0 := goI_new wo T ys.length hN
        obtain ⟨W3, hW3⟩ : ∃ W, (wo.alloc (.cells #[.int .i64 0] 3)).alloc (.cells #[.pointer (some ⟨T, 0, none⟩)] 23) = W := ⟨_, rfl⟩
        have z3 : W3.heap.size = N + 2 := by rw [← hW3]; simp [hN]
        rw [hW3] at gi0
        rw [hN, hW3]
        have GI0 := hid gi0
        have HN := hid hN
        have Z3 := hid z3
        have hTN : T < N := by rw [← hN]; exact hTs
        clear gi0 hW3 hN z3
        refine rangeFunc_VX (gf := 31) (lb := #[.pointer (some ⟨N + 1, 0, none⟩)]) rfl (enters_of Try.func31 (by kernel_rfl) rfl) (all1_iter 8 (by decide) (T := T) (cap := n) (safe := s) (c := c) (xs := ys) (A := A) (N + 1) (N + 2)) (fun _ => rfl)
          goAsg (fun pre W => GoI N T ys.length wo pre.length W ∧ pre.length ≤ m) (fun cd pre W => (cd = .exit 2 ∧ pre.length = m + 1) ∧ GoI N T ys.length wo pre.length W)
          (fun pre x W => (GoI N T ys.length wo pre.length W ∧ pre.length ≤ m) ∧ (x.k = pre.length ∧ ys[pre.length]? = some x.t) ∧ GotAt W (N + 2) x)
          (fun x X W => W.heap[X]? = some (.cells #[.bool x.t.1, .slice x.B x.t.2.length x.c] 44 (0, 0)))
          ?o1 ?o2 ?o3 ?o4 ?home ⟨GI0.out, Nat.zero_le _⟩ ?assign ?body ?done ?stop
        case o1 => exact fun pre W W' row h hg hr => ⟨goI_own HN.out (by rw [Z3.out]; omega) h.1 hg hr, h.2⟩
        case o2 => exact fun cd pre W W' row h hg hr => ⟨h.1, goI_own HN.out (by rw [Z3.out]; omega) h.2 hg hr⟩
        case o3 => exact fun pre x u W W' row h hg hr => ⟨⟨goI_own HN.out (by rw [Z3.out]; omega) h.1.1 hg hr, h.1.2⟩, h.2.1, h.2.2.own hg (fun r e => (hr r e).2)⟩
        case o4 => exact fun x X u W W' row h hg hr => block_own h hg (fun r e => (hr r e).2)
        case home => exact fun pre W h => ⟨HT.out.below (by rw [HN.out]; exact h.1.bel), (cell_of_row W _ 0 _ _ _ h.1.c0).trans rfl, h.1.sz⟩
        case assign =>
          intro l pre x W hI hV
          have HI := hid hI
          have HV := hid hV
          clear hI hV
          simp [Got.enc]
          gi_wp2
          have hg := World.grownBy_alloc W (.cells #[.bool x.t.1, .slice x.B x.t.2.length x.c] 44) none
          have hr : ∀ r, (none : Option Nat) = some r → W3.heap.size ≤ r ∧ ∃ o : Obj, W.heap[r]? = some o ∧ o.isCells = false := fun r e => by cases e
          refine ⟨(KeepsOthers.alloc W _).from _, ⟨⟨goI_own HN.out (by rw [Z3.out]; omega) HI.out.1 hg hr, HI.out.2⟩, ⟨HV.out.1, HV.out.2.1⟩, GotAt.own HV.out.2.2 hg (fun r e => (hr r e).2)⟩, W.heap.size, ?_, block_new _ _⟩
          simp only [goAsg, List.setIfInBounds_toArray, List.set_cons_zero, List.set_cons_succ]
        case body =>
          rintro l pre x X W ⟨⟨hI, hpm⟩, ⟨hxk, hxt⟩, hga⟩ hX
          obtain ⟨p1, hp⟩ : ∃ p1, pre.length = p1 := ⟨_, rfl⟩
          rw [hp] at hI hpm hxk hxt
          have HP := hid hp
          clear hp
          obtain ⟨p, ⟨xb, xl⟩, xB, xc⟩ := x
          simp only at hxk hxt hX hga
          subst hxk
          obtain ⟨hplt, hye⟩ := List.getElem?_eq_some_iff.1 hxt
          have bI : Below wo.heap.size wo W := by rw [HN.out]; exact hI.bel
          have hTW := HT.out.below bI
          have hRW := HR.out.keep (Rest.below bI)
          obtain ⟨ad2, rfl, hadT, i0, B2, k2, i1, hbo⟩ := hRW.1 p hplt
          rw [hye] at i0 i1 hbo
          rw [add_one', Nat.mul_comm] at i1
          rw [Nat.mul_comm] at i0
          dsimp only at i0 i1 hbo
          have hGl : G < wo.heap.size := (Array.getElem?_eq_some_iff.1 HG.out).1
          have hGW := (bI.block G hGl).trans HG.out
          have g1 : W.cell? ⟨G, 1, none⟩ = some (.slice (some ad2) ys.length c2) := (cell_of_row W _ 1 _ _ _ hGW).trans rfl
          have n0 : W.cell? ⟨N, 0, none⟩ = some (.int .i64 p) := (cell_of_row W _ 0 _ _ _ hI.n0).trans rfl
          have x0 : W.cell? ⟨X, 0, none⟩ = some (.bool xb) := (cell_of_row W _ 0 _ _ _ hX).trans rfl
          have x1 : W.cell? ⟨X, 1, none⟩ = some (.slice xB xl.length xc) := (cell_of_row W _ 1 _ _ _ hX).trans rfl
          have hpi : (p : Int) < (ys.length : Int) := by omega
          have hp0 : (0 : Int) ≤ (p : Int) := by omega
          have hpd : decide (p < ys.length) = true := by simpa using hplt
          have hxl20 : xl.length ≤ 20000000 := by
            have h1 := HT.out.fits
            have h3 := used_mem (List.getElem_mem hplt)
            rw [hye] at h3
            unfold cost at h3
            simp only at h3
            omega
          have KC1 : ∀ k, (convert 30 9 (.slice xB xl.length xc)).run Try.prog (W.drewN k) = .ok (.string (strL xl)) (W.drewN k) := fun k => run_string (hga.1.calm (Calm.of_drewN W k)) xc
          have KC2 : ∀ k, (convert 30 9 (.slice B2 xl.length k2)).run Try.prog (W.drewN k) = .ok (.string (strL xl)) (W.drewN k) := fun k => run_string (hbo.1.calm (Calm.of_drewN W k)) k2
          have HI := hid hI
          have HX := hid hX
          have HGA := hid hga
          have HXT := hid hxt
          have HRW := hid hRW
          clear hI hX hga hxt hRW hTW hbo hGW hadT bI hye
          simp only [goAsg, List.setIfInBounds_toArray, List.set_cons_zero, List.set_cons_succ]
          gi_wp2_with fail
          refine region_round (by kernel_rfl) (by kernel_rfl) (by kernel_rfl) ?_
          repeat (first
            | gi_big_quiet_step (fail)
            | (refine BigFrame.wpQuietIn_want (fun _ _ _ _ => trivial) rfl ?_
               intro _ _
               gi_big_quiet_op))
          refine wpQuietIn_nil ?_
          intro _ hw'
          obtain ⟨nq, hw''⟩ := hw'
          subst hw''
          have h2 := Calm.of_drewN W nq
          obtain ⟨wq, hwq⟩ : ∃ x, W.drewN nq = x := ⟨_, rfl⟩
          rw [hwq] at h2 ⊢
          have GI2 := hid (HI.out.below (h2.below _))
          have KO2 := hid (calm_others h2)
          have x12 := (h2.cell ⟨X, 1, none⟩).trans x1
          have BA2 := hid (HGA.out.bytes.below (h2.below _))
          have HX2 : Hid (wq.heap[X]? = some (.cells #[.bool xb, .slice xB xl.length xc] 44 (0, 0))) := hid (by rw [h2.heap]; exact HX.out)
          clear h2 hwq x0 x1 n0 g1 i0 i1 KC1 KC2
          gi_wp2_with fail
          gi_loopw [75] (fun i wr => ∃ j : Nat, j ≤ xl.length ∧ i = .int .i64 j ∧ Hid (GoI N T ys.length wo p wr) ∧ Hid (KeepsOthers W wr) ∧ Hid (wr.heap[X]? = some (.cells #[.bool xb, .slice xB xl.length xc] 44 (0, 0))) ∧ Hid (BytesAt (N + 2) wr xB xl.length)) (fun i _ => xl.length - (intOf i).toNat)
          case atStart => exact ⟨0, by omega, rfl, GI2, KO2, HX2, BA2⟩
          case round =>
            obtain ⟨j, hj, rfl, HGj, HKj, HXj, HBj⟩ := hrel
            obtain ⟨wj, rfl⟩ : ∃ wo : World, wo = wr := ⟨_, rfl⟩
            by_cases hjl : j < xl.length
            · have dj : decide (j < xl.length) = true := by simpa using hjl
              obtain ⟨bd, rfl⟩ := HBj.out.1 (by omega)
              obtain ⟨hbb, ⟨cs, hcs⟩, hby⟩ := HBj.out.2 bd rfl
              obtain ⟨y, hy⟩ := hby j hjl
              have hf := HBj.out.frozen j
              have xj1 : wj.cell? ⟨X, 1, none⟩ = some (.slice (some bd) xl.length xc) := (cell_of_row wj _ 1 _ _ _ HXj.out).trans rfl
              have hXb : X ≠ bd.block := by rintro rfl; have := HXj.out; rw [hcs] at this; cases this
              have hji : (j : Int) < (xl.length : Int) := by omega
              have hj0 : (0 : Int) ≤ (j : Int) := by omega
              clear hcs hby x12
              gi_wp2_with fail
              go_roundw
              case rel =>
                have t := Touch.setCell wj (bd.add j) (.int .u8 ((y + 1) % 256))
                rw [add_block] at t
                exact ⟨j + 1, by omega, by go_num, hid (HGj.out.touch t hbb), hid (HKj.out.trans (KeepsOthers.setCell _ _ _)), hid ((t.block X (lt_of_some HXj.out) (by simpa using hXb)).trans HXj.out), hid (HBj.out.set hjl _)⟩
              case measure => simp [intOf]; omega
            · have dj : decide (j < xl.length) = false := by simpa using hjl
              have n0 : wj.cell? ⟨N, 0, none⟩ = some (.int .i64 p) := (cell_of_row wj _ 0 _ _ _ HGj.out.n0).trans rfl
              have nf : wj.frozen? ⟨N, 0, none⟩ = false := frozen_of_row wj _ 0 _ _ HGj.out.n0
              have hbN : w.heap.size < N := by have := Z0.out; have := HTT.out; omega
              have s5 : wj.cell? ⟨w.heap.size, 0, none⟩ = some (.int .u8 m) := by
                have e1 := HW.out.block w.heap.size (by have := Z0.out; have := HTT.out; omega)
                have e2 := HGj.out.bel.block w.heap.size hbN
                exact (cell_of_row wj _ 0 _ _ _ (e2.trans (e1.trans M0.out))).trans rfl
              have s53 : (wj.setCell ⟨N, 0, none⟩ (.int .i64 ((p : Int) + 1))).cell? ⟨w.heap.size, 0, none⟩ = some (.int .u8 m) := by rw [World.cell?_setCell_far _ _ _ _ (by show N ≠ w.heap.size; omega)]; exact s5
              have hp2 : p ≤ 2097152 := by omega
              have hst := hid (HGj.out.step hplt ((p : Int) + 1) (by simp))
              have hlen : (pre ++ [(⟨p, (xb, xl), xB, xc⟩ : Got)]).length = p + 1 := by have := HP.out; simp; omega
              have HLEN := hid hlen
              have KK := hid (HKj.out.trans (KeepsOthers.setCell wj ⟨N, 0, none⟩ (.int .i64 ((p : Int) + 1))))
              clear hlen x12
              by_cases hpm2 : p + 1 ≤ m
              · have q3 : decide ((m : Int) < (p : Int) + 1) = false := by simp; omega
                gi_wp2_with fail
                exact ⟨KK.out.from _, by rw [HLEN.out]; exact hst.out, by rw [HLEN.out]; exact hpm2⟩
              · have q3 : decide ((m : Int) < (p : Int) + 1) = true := by simp; omega
                gi_wp2_with fail
                exact ⟨KK.out.from _, ⟨rfl, by rw [HLEN.out]; omega⟩, by rw [HLEN.out]; exact hst.out⟩
        case' done =>
          intro D2 xs2 W hD hS2 hI hK
          obtain ⟨kk, hkk⟩ : ∃ kk, xs2.length = kk := ⟨_, rfl⟩
          rw [hkk] at hI hS2
          have hmin : (if (m : Int) + 1 < (ys.length : Int) then (m : Int) + 1 else (ys.length : Int)) = (kk : Int) := by have := hI.2; split <;> omega
          replace hI := hI.1
          clear hS2 hkk xs2
        case' stop =>
          intro D2 cd pre W hD hSp hx hK
          obtain ⟨⟨rfl, hpm⟩, hI⟩ := hx
          obtain ⟨kk, hkk⟩ : ∃ kk, pre.length = kk := ⟨_, rfl⟩
          rw [hkk] at hI hpm
          have hmin : (if (m : Int) + 1 < (ys.length : Int) then (m : Int) + 1 else (ys.length : Int)) = (kk : Int) := by have := hI.pl; split <;> omega
          clear hpm hkk hSp pre
        all_goals
          have HI := hid hI
          have HK := hid hK
          have HD := hid hD
          have HMIN := hid hmin
          clear hI hK hD hmin
          have bI : Below wo.heap.size wo W := by rw [HN.out]; exact HI.out.bel
          have hb5 : w.heap.size + 1 < T := by have := Z0.out; have := HTT.out; omega
          have hGl : G < wo.heap.size := (Array.getElem?_eq_some_iff.1 HG.out).1
          have hG2 : w.heap.size + 1 < G := by omega
          have hWs := HI.out.sz
          have c1 : W.cell? ⟨G, 1, none⟩ = some (.slice A2 ys.length c2) := (cell_of_row W _ 1 _ _ _ ((bI.block G hGl).trans HG.out)).trans rfl
          have c0 : W.cell? ⟨N, 0, none⟩ = some (.int .i64 kk) := (cell_of_row W _ 0 _ _ _ HI.out.n0).trans rfl
          have c5 : W.cell? ⟨w.heap.size, 0, none⟩ = some (.int .u8 m) := (cell_of_row W _ 0 _ _ _ ((bI.block _ (by omega)).trans ((HW.out.block _ (by omega)).trans M0.out))).trans rfl
          have r6 := (bI.block _ (by omega)).trans ((HW.out.block _ (by omega)).trans R0.out)
          have hS := goesS c0 c1 c5
          have R6 := hid r6
          have HTW := hid (HT.out.below bI)
          have HRW := hid (HR.out.keep (Rest.below bI))
          have BW := hid (below_tr B0.out (by have := Z0.out; omega) (show Below w0.heap.size w0 W by rw [HTT.out]; exact below_tr HW.out (by omega) bI))
          clear bI c0 c1 c5 r6 hGl
          go_upto_region 23 with (fail)
          have b9 : Below W.heap.size W W.drew := (Below.refl _ _).drew
          have wm : IntKind.i64.wrap (m : Int) = (m : Int) := IntWalk.i64_in _ (by omega)
          have wm1 : IntKind.i64.wrap ((m : Int) + 1) = (m : Int) + 1 := IntWalk.i64_in _ (by omega)
          refine start_heldF (n := 20) (l := (false :: false :: false :: false :: false :: false :: false :: false :: false :: false :: false :: false :: false :: false :: false :: false :: false :: false :: false :: false :: []).toArray) (S := GoesS N G w.heap.size ys.length kk m A2 c2) (by kernel_rfl) (hS.below b9) (by kernel_rfl) (by kernel_rfl) ?_
          obtain ⟨W9, hW9⟩ : ∃ n, W.drew = n := ⟨_, rfl⟩
          rw [hW9] at b9 ⊢
          have HT9 := hid (HTW.out.below b9)
          have HR9 := hid (HRW.out.keep (Rest.below b9))
          have HK9 := hid ((b9.block _ (lt_of_some HK.out)).trans HK.out)
          have R9 := hid ((b9.block _ (lt_of_some R6.out)).trans R6.out)
          have hS := hS.below b9
          have B9 := hid (below_tr BW.out (by have := BW.out.size; omega) b9)
          clear b9 hW9
          refine take_held (i := 0) (v := ?_) rfl (by kernel_rfl) (by kernel_rfl) (by kernel_rfl) (fun _ _ _ h => h) (by kernel_rfl) ?_ hS ?_
          rotate_left
          · (rintro w s1; obtain ⟨q0, q1, q2⟩ := s1; go_simp; try with_reducible rfl)
          simp only [Act.put, List.setIfInBounds_toArray, List.set_cons_zero, List.set_cons_succ]
          refine take_held (i := 1) (v := ?_) rfl (by kernel_rfl) (by kernel_rfl) (by kernel_rfl) (fun _ _ _ h => h) (by kernel_rfl) ?_ hS ?_
          rotate_left
          · (rintro w s1; obtain ⟨q0, q1, q2⟩ := s1; go_simp; try with_reducible rfl)
          simp only [Act.put, List.setIfInBounds_toArray, List.set_cons_zero, List.set_cons_succ]
          refine take_held (i := 2) (v := ?_) rfl (by kernel_rfl) (by kernel_rfl) (by kernel_rfl) (fun _ _ _ h => h) (by kernel_rfl) ?_ hS ?_
          rotate_left
          · (rintro w s1; obtain ⟨q0, q1, q2⟩ := s1; go_simp; try with_reducible rfl)
          simp only [Act.put, List.setIfInBounds_toArray, List.set_cons_zero, List.set_cons_succ]
          refine take_held (i := 3) (v := ?_) rfl (by kernel_rfl) (by kernel_rfl) (by kernel_rfl) (fun _ _ _ h => h) (by kernel_rfl) ?_ hS ?_
          rotate_left
          · (rintro w s1; obtain ⟨q0, q1, q2⟩ := s1; go_simp; try with_reducible rfl)
          simp only [Act.put, List.setIfInBounds_toArray, List.set_cons_zero, List.set_cons_succ]
          refine take_held (i := 4) (v := ?_) rfl (by kernel_rfl) (by kernel_rfl) (by kernel_rfl) (fun _ _ _ h => h) (by kernel_rfl) ?_ hS ?_
          rotate_left
          · (rintro w s1; obtain ⟨q0, q1, q2⟩ := s1; go_simp; try with_reducible rfl)
          simp only [Act.put, List.setIfInBounds_toArray, List.set_cons_zero, List.set_cons_succ]
          refine take_held (i := 5) (v := ?_) rfl (by kernel_rfl) (by kernel_rfl) (by kernel_rfl) (fun _ _ _ h => h) (by kernel_rfl) ?_ hS ?_
          rotate_left
          · (rintro w s1; obtain ⟨q0, q1, q2⟩ := s1; go_simp; try with_reducible rfl)
          simp only [Act.put, List.setIfInBounds_toArray, List.set_cons_zero, List.set_cons_succ]
          refine take_held (i := 6) (v := ?_) rfl (by kernel_rfl) (by kernel_rfl) (by kernel_rfl) (fun _ _ _ h => h) (by kernel_rfl) ?_ hS ?_
          rotate_left
          · (rintro w s1; obtain ⟨q0, q1, q2⟩ := s1; go_simp; try with_reducible rfl)
          simp only [Act.put, List.setIfInBounds_toArray, List.set_cons_zero, List.set_cons_succ]
          refine take_held (i := 7) (v := .int .i64 kk) rfl (by kernel_rfl) (by kernel_rfl) (by kernel_rfl) (fun _ _ _ h => h) (by kernel_rfl) ?_ hS ?_
          · (rintro w s1; obtain ⟨q0, q1, q2⟩ := s1; go_simp; try rw [HMIN.out])
          simp only [Act.put, List.setIfInBounds_toArray, List.set_cons_zero, List.set_cons_succ]
          refine take_held (i := 8) (v := ?_) rfl (by kernel_rfl) (by kernel_rfl) (by kernel_rfl) (fun _ _ _ h => h) (by kernel_rfl) ?_ hS ?_
          rotate_left
          · (rintro w s1; obtain ⟨q0, q1, q2⟩ := s1; go_simp; try with_reducible rfl)
          simp only [Act.put, List.setIfInBounds_toArray, List.set_cons_zero, List.set_cons_succ]
          refine take_held (i := 9) (v := ?_) rfl (by kernel_rfl) (by kernel_rfl) (by kernel_rfl) (fun _ _ _ h => h) (by kernel_rfl) ?_ hS ?_
          rotate_left
          · (rintro w s1; obtain ⟨q0, q1, q2⟩ := s1; go_simp; try with_reducible rfl)
          simp only [Act.put, List.setIfInBounds_toArray, List.set_cons_zero, List.set_cons_succ]
          refine take_held (i := 10) (v := ?_) rfl (by kernel_rfl) (by kernel_rfl) (by kernel_rfl) (fun _ _ _ h => h) (by kernel_rfl) ?_ hS ?_
          rotate_left
          · (rintro w s1; obtain ⟨q0, q1, q2⟩ := s1; go_simp; try with_reducible rfl)
          simp only [Act.put, List.setIfInBounds_toArray, List.set_cons_zero, List.set_cons_succ]
          refine take_held (i := 12) (v := ?_) rfl (by kernel_rfl) (by kernel_rfl) (by kernel_rfl) (fun _ _ _ h => h) (by kernel_rfl) ?_ hS ?_
          rotate_left
          · (rintro w s1; obtain ⟨q0, q1, q2⟩ := s1; go_simp; try with_reducible rfl)
          simp only [Act.put, List.setIfInBounds_toArray, List.set_cons_zero, List.set_cons_succ]
          refine take_held (i := 13) (v := ?_) rfl (by kernel_rfl) (by kernel_rfl) (by kernel_rfl) (fun _ _ _ h => h) (by kernel_rfl) ?_ hS ?_
          rotate_left
          · (rintro w s1; obtain ⟨q0, q1, q2⟩ := s1; go_simp; try with_reducible rfl)
          simp only [Act.put, List.setIfInBounds_toArray, List.set_cons_zero, List.set_cons_succ]
          refine one_held (i := 11) rfl (by kernel_rfl) (by kernel_rfl) (fun K hK => ?_)
          have HK := hid hK
          clear hK
          go_simp
          refine (items_any HT9.out).mono ?_
          rintro e w10 ⟨v10, rfl, hl10, b10⟩
          obtain ⟨A10, c10, rfl, hr10, _⟩ := hl10.reads (by omega)
          have R10i := hid hr10
          have HT10 := hid (HT9.out.below b10)
          have HR10 := hid (HR9.out.keep (Rest.below b10))
          have HK10 := hid ((b10.block _ (lt_of_some HK9.out)).trans HK9.out)
          have R10 := hid ((b10.block _ (lt_of_some R9.out)).trans R9.out)
          have hS := hS.below b10
          have B10 := hid (below_tr B9.out (by have := B9.out.size; omega) b10)
          clear hl10 hr10 b10
          refine HK.out _ _ ⟨hS, ?_⟩
          clear HK K
          try simp only [Act.put, List.setIfInBounds_toArray, List.set_cons_zero, List.set_cons_succ]
          refine one_held (i := 14) rfl (by kernel_rfl) (by kernel_rfl) (fun K hK => ?_)
          have HK := hid hK
          clear hK
          go_simp
          refine (same_any c10 c2 R10i.out HR10.out.readsI hy).mono ?_
          rintro e w11 ⟨rfl, b11⟩
          have HT11 := hid (HT10.out.below b11)
          have HR11 := hid (HR10.out.keep (Rest.below b11))
          have HK11 := hid ((b11.block _ (lt_of_some HK10.out)).trans HK10.out)
          have R11 := hid ((b11.block _ (lt_of_some R10.out)).trans R10.out)
          have hS := hS.below b11
          have B11 := hid (below_tr B10.out (by have := B10.out.size; omega) b11)
          clear b11
          refine HK.out _ _ ⟨hS, ?_⟩
          clear HK K
          try simp only [Act.put, List.setIfInBounds_toArray, List.set_cons_zero, List.set_cons_succ]
          refine take_held (i := 15) (v := ?_) rfl (by kernel_rfl) (by kernel_rfl) (by kernel_rfl) (fun _ _ _ h => h) (by kernel_rfl) ?_ hS ?_
          rotate_left
          · (rintro w s1; obtain ⟨q0, q1, q2⟩ := s1; go_simp; try with_reducible rfl)
          simp only [Act.put, List.setIfInBounds_toArray, List.set_cons_zero, List.set_cons_succ]
          refine take_held (i := 16) (v := ?_) rfl (by kernel_rfl) (by kernel_rfl) (by kernel_rfl) (fun _ _ _ h => h) (by kernel_rfl) ?_ hS ?_
          rotate_left
          · (rintro w s1; obtain ⟨q0, q1, q2⟩ := s1; go_simp; try with_reducible rfl)
          simp only [Act.put, List.setIfInBounds_toArray, List.set_cons_zero, List.set_cons_succ]
          refine one_held (i := 17) rfl (by kernel_rfl) (by kernel_rfl) (fun K hK => ?_)
          have HK := hid hK
          clear hK
          go_simp
          refine (awake_any _).mono ?_
          rintro e w12 ⟨rfl, b12⟩
          have HT12 := hid (HT11.out.below b12)
          have HR12 := hid (HR11.out.keep (Rest.below b12))
          have HK12 := hid ((b12.block _ (lt_of_some HK11.out)).trans HK11.out)
          have R12 := hid ((b12.block _ (lt_of_some R11.out)).trans R11.out)
          have hS := hS.below b12
          have B12 := hid (below_tr B11.out (by have := B11.out.size; omega) b12)
          clear b12
          refine HK.out _ _ ⟨hS, ?_⟩
          clear HK K
          try simp only [Act.put, List.setIfInBounds_toArray, List.set_cons_zero, List.set_cons_succ]
          refine take_held (i := 18) (v := ?_) rfl (by kernel_rfl) (by kernel_rfl) (by kernel_rfl) (fun _ _ _ h => h) (by kernel_rfl) ?_ hS ?_
          rotate_left
          · (rintro w s1; obtain ⟨q0, q1, q2⟩ := s1; go_simp; try with_reducible rfl)
          simp only [Act.put, List.setIfInBounds_toArray, List.set_cons_zero, List.set_cons_succ]
          refine one_held (i := 19) rfl (by kernel_rfl) (by kernel_rfl) (fun K hK => ?_)
          have HK := hid hK
          clear hK
          go_simp
          have r12 : w12.cell? ⟨w.heap.size + 1, 0, none⟩ = some (.bool false) := (cell_of_row w12 _ 0 _ _ _ R12.out).trans rfl
          have f12 : w12.frozen? ⟨w.heap.size + 1, 0, none⟩ = false := frozen_of_row w12 _ 0 _ _ R12.out
          go_simp
          refine HK.out _ _ ⟨hS.set (by omega) (by omega), ?_⟩
          clear HK K
          try simp only [Act.put, List.setIfInBounds_toArray, List.set_cons_zero, List.set_cons_succ]
          refine wpAnyH_done (by kernel_rfl) ?_ _
          go_wp2
          have q2 := (KeepsOthers.setCell w12 ⟨w.heap.size + 1, 0, none⟩ (.bool true)).same D2 _ HK12.out rfl
          obtain ⟨e1, e2⟩ := res_end B12.out r12
          obtain ⟨hc5, bl5⟩ := one_put e1 q2 (by have := HD.out; have := Z3.out; omega) e2
          refine ⟨by simp, .inl ⟨_, _, rfl, run_takeDeferred q2, ?_⟩⟩
          exact ⟨.bool true, by simp [results, Try.f4, go_sem, hc5], rfl, bl5⟩
theorem law_goes {w : World} {D : Option Addr} {ds : List Step} {cD : Nat} (h : ReadsD w D ds) (cp : Int) (m : Nat) (hm : m ≤ 255) :
    Calls Try.prog 4 #[.int .i64 cp, .slice D ds.length cD, .int .u8 m] w fun e w' => e = .returned (.bool true) ∧ Below w.heap.size w w' := by
  by_cases hn : cp < 0 ∨ 16777216 < cp
  · exact goes_out h cp m hn
  · obtain ⟨n, rfl⟩ : ∃ n : Nat, cp = n := ⟨cp.toNat, by omega⟩
    exact goes_in h n m hm (by omega)
end Go.Proofs.Ythieemfcmehdiaa
