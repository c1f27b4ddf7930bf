/- TapeKeeps (func 8): the walk: for every input it returns true. -/
import Derived.Test.YthieemfcmehdiaaSteps
import Derived.Test.YthieemfcmehdiaaSameT
import Derived.Test.YthieemfcmehdiaaCopy
namespace Go.Proofs.Ythieemfcmehdiaa
open Go.RowKit
set_option linter.unusedSimpArgs false
set_option linter.unusedVariables false
set_option maxHeartbeats 4000000 in
set_option maxRecDepth 100000 in
theorem keeps_out {w : World} {D : Option Addr} {ds : List Step} {cD : Nat} (h : ReadsD w D ds) (cp keep torn : Int) (hn : cp < 0 ∨ 16777216 < cp) :
    Calls Try.prog 8 #[.int .i64 cp, .slice D ds.length cD, .int .i64 keep, .int .i64 torn] w fun e w' => e = .returned (.bool true) ∧ Below w.heap.size w w' := by
  have HN := hid hn
  clear h hn
  go_enter Try.func8, Try.ntmps8
  go_wp2_with fail
  refine (new_no cp w HN.out).mono ?_
  rintro e w1 ⟨rfl, rfl⟩
  go_wp2_with fail
  refine (awake_any w).mono ?_
  rintro e w1 ⟨rfl, b1⟩
  have B1 := hid b1
  clear b1
  go_wp2
  go_ret
  exact ⟨rfl, B1.out⟩
set_option maxHeartbeats 8000000 in
set_option maxRecDepth 100000 in
theorem keeps_in {w : World} {D : Option Addr} {ds : List Step} {cD : Nat} (h : ReadsD w D ds) (n : Nat) (keep torn : Int) (hn : n ≤ 16777216) :
    Calls Try.prog 8 #[.int .i64 (n : Int), .slice D ds.length cD, .int .i64 keep, .int .i64 torn] w fun e w' => e = .returned (.bool true) ∧ Below w.heap.size w w' := by
  have H := hid h
  have hl := h.1
  clear h
  go_enter Try.func8, Try.ntmps8
  go_wp2_with fail
  refine (new_yes n w hn).mono ?_
  rintro e w1 ⟨rfl, hw1⟩
  have h1 := tape_new w n hn
  rw [← hw1] at h1
  have b1 : Below w.heap.size w w1 := by rw [hw1]; exact below_new _ _
  have H1 := hid h1
  have B1 := hid b1
  have D1 := hid (H.out.below b1)
  have S1 : Hid (w1.heap.size = w.heap.size + 1) := hid (by rw [hw1]; simp)
  clear hw1 h1 b1
  go_wp2_with fail
  refine (few_any D1.out).mono ?_
  rintro e w2 ⟨⟨bb, rfl, hbb⟩, rfl⟩
  cases bb with
  | false =>
    go_wp2_with fail
    refine (awake_any _).mono ?_
    rintro e w3 ⟨rfl, b3⟩
    have B3 := hid (below_trans B1.out b3)
    clear b3
    go_wp2
    go_ret
    exact ⟨rfl, B3.out⟩
  | true =>
    have HF := hid (hbb rfl)
    clear hbb
    go_wp2_with fail
    have q := block_new w2 (.cells #[.int .i64 n, .slice none 0 0, .int .i64 0] 29)
    have bb := below_new w2 (.cells #[.int .i64 n, .slice none 0 0, .int .i64 0] 29)
    have h2 := H1.out.below bb
    have bT := hid (below_trans B1.out bb)
    have hTG : w.heap.size < w2.heap.size := by have := S1.out; omega
    obtain ⟨W, hW⟩ : ∃ x, w2.alloc (.cells #[.int .i64 n, .slice none 0 0, .int .i64 0] 29) = x := ⟨_, rfl⟩
    rw [hW] at q bb h2 bT ⊢
    obtain ⟨G, hG⟩ : ∃ G, w2.heap.size = G := ⟨_, rfl⟩
    rw [hG] at q hTG ⊢
    have DW := hid (fun i hi => H.out.out (i := i) bT.out hi)
    have RW := hid (H.out.below bT.out)
    obtain ⟨T, hT⟩ : ∃ T, w.heap.size = T := ⟨_, rfl⟩
    have HTT := hid hT
    rw [hT] at h2 bT DW hTG ⊢
    have B2 := hid (both_new h2 hn q)
    have HB200 := hid HF.out.2
    clear hW hG hT q bb h2 HF
    go_loopw [31] (fun i wr => ∃ k : Nat, k ≤ ds.length ∧ i = .int .i64 k ∧ Hid (Both T G n wr) ∧ Hid (Below T w wr) ∧ Hid (T ≤ wr.heap.size)) (fun i _ => ds.length - (intOf i).toNat)
    case atStart => exact ⟨0, by omega, rfl, B2, bT, hid (by have := bT.out.size; have := HTT.out; omega)⟩
    case round =>
      obtain ⟨k, hk, rfl, HB, HW, HS⟩ := hrel
      obtain ⟨wo, rfl⟩ : ∃ wo : World, wo = wr := ⟨_, rfl⟩
      obtain ⟨ys, s, A, c, A2, c2, ht, hr, hg, hmk⟩ := HB.out
      by_cases hlt : k < ds.length
      · have dl : decide (k < ds.length) = true := by simpa using hlt
        have bwo : Below w.heap.size w wo := by rw [HTT.out]; exact HW.out
        obtain ⟨ad, rfl, a0, a1, a2, a3, _⟩ := (H.out.below bwo).2 k hlt
        have hbo := H.out.out bwo k hlt
        rw [HTT.out] at hbo
        have hir := in_round ht hr hg hbo (HB200.out k hlt) hmk
        obtain ⟨x, hx⟩ : ∃ x, ds[k] = x := ⟨_, rfl⟩
        rw [hx] at a0 a1 a2 a3 hir
        have hki : (k : Int) < (ds.length : Int) := by omega
        have hk0 : (0 : Int) ≤ (k : Int) := by omega
        have HIR := hid hir
        clear hx hbo ht hr hg bwo hir hmk
        go_upto_region 8 with (fail)
        obtain ⟨W5, hW5⟩ : ∃ W5, wo.alloc (.cells #[.int .i64 x.verb, .int .i64 x.n, .int .i64 x.m, .slice x.B x.l.length x.k] 32) = W5 := ⟨_, rfl⟩
        have HW5 := hid hW5
        rw [hW5] at HIR ⊢
        obtain ⟨D5, hD5⟩ : ∃ D5, wo.heap.size = D5 := ⟨_, rfl⟩
        have HD5 := hid hD5
        rw [hD5] at HIR ⊢
        have r0 := HIR.out.r0
        have r1 := HIR.out.r1
        have r2 := HIR.out.r2
        have d0 := HIR.out.d0
        have d1 := HIR.out.d1
        have d2 := HIR.out.d2
        have d3 := HIR.out.d3
        clear hW5 hD5 a0 a1 a2 a3
        go_wp2_with fail
        refine HIR.out.does.mono ?_
        rintro e w6 ⟨ys', s', hd⟩
        obtain ⟨A3, c3, rfl, hbx, t6⟩ := box_of HIR.out hd (Nat.ne_of_lt hTG)
        have f6 := hbx.cells.1
        have g60 := hbx.cells.2.1
        have g61 := hbx.cells.2.2.1
        have g62 := hbx.cells.2.2.2
        have b7 := fun x y z => below_next _ HW.out HS.out (by rw [HW5.out]; exact t6) (Nat.le_of_lt hTG) x y z
        have n7 := hbx.next (Nat.ne_of_lt hTG)
        obtain ⟨v60, g60⟩ := g60
        obtain ⟨v61, g61⟩ := g61
        obtain ⟨v62, g62⟩ := g62
        have f60 := f6 0
        have f61 := f6 1
        have f62 := f6 2
        have hs7 : T ≤ (((w6.setCell ⟨G, 0, none⟩ (.int .i64 n)).setCell ⟨G, 1, none⟩ (.slice A3 ys'.length c3)).setCell ⟨G, 2, none⟩ (.int .i64 s')).heap.size := by
          have h1 := HIR.out.t.lt
          have h2 := t6.size
          simp
          omega
        have B7 := hid b7
        have N7 := hid n7
        have HS7 := hid hs7
        clear b7 n7 hs7 hbx hd t6 f6
        go_wp2_with fail
        go_roundw
        case rel => exact ⟨k + 1, by omega, by go_num, N7, hid (B7.out _ _ _), HS7⟩
        case measure => simp [intOf]; omega
      · have dl : decide (k < ds.length) = false := by simpa using hlt
        have HT := hid ht
        have hy := ht.len
        have hsl := ht.safe
        have hS := HS.out
        have hTs := ht.lt
        clear ht hr hg hmk H HB200 H1 B1 D1 S1 DW RW B2 HB HS bT
        go_wp2_with fail
        refine (items_any HT.out).mono ?_
        rintro e w3 ⟨v3, rfl, hl3, b3⟩
        obtain ⟨A3, c3, rfl, _, _, hc3⟩ := hl3.reads (by omega)
        have HL3 := hid hl3
        have HT3 := hid (HT.out.below b3)
        have B3 := hid (below_tr HW.out hS b3)
        have s3 := b3.size
        clear hl3 b3
        go_wp2_with fail
        refine (safe_any HT3.out).mono ?_
        rintro e w4 ⟨rfl, rfl⟩
        go_wp2_with fail
        refine (copy_any HT3.out).mono ?_
        rintro e w5 ⟨T2, A5, c5, rfl, hT2, ht5, b5⟩
        have HC5 := hid ht5
        have HT5 := hid (HT3.out.below b5)
        have HL5 := hid (HL3.out.below b5)
        have B5 := hid (below_tr B3.out (by omega) b5)
        have s5 := b5.size
        clear ht5 b5
        obtain ⟨N, hN⟩ : ∃ N, crashN s ys.length keep = N := ⟨_, rfl⟩
        have hNs : s ≤ N ∧ N ≤ ys.length := by unfold crashN at hN; omega
        obtain ⟨tl, htl⟩ : ∃ tl, tailOf ys[N]? torn = tl := ⟨_, rfl⟩
        have HN := hid hN
        have HTL := hid htl
        clear hN htl
        go_wp2_with fail
        refine (crash_any HT5.out keep torn N HN.out tl HTL.out).mono ?_
        rintro e w6 ⟨⟨v6, rfl⟩, A6, c6, ht6, t6⟩
        obtain ⟨zs, hzs⟩ : ∃ zs, ys.take N ++ tl = zs := ⟨_, rfl⟩
        rw [hzs] at ht6
        have hz : zs.take s = ys.take s := by rw [← hzs, List.take_append_of_le_length (by simp; omega), List.take_take, Nat.min_eq_left hNs.1]
        have hzl : s ≤ zs.length := by rw [← hzs]; simp; omega
        have HZ := hid hz
        have HT6 := hid ht6
        have HL6 := hid (HL5.out.touch t6 HT5.out hTs)
        have HC6 := hid (HC5.out.aside HT5.out.blk (by
          intro v hv
          simp at hv
          rcases hv with rfl | rfl | rfl | rfl <;> exact ⟨fun _ h => (by cases h), fun _ h => (by cases h)⟩) t6 (by omega))
        have B6 := hid (below_touch B5.out (by omega) t6)
        have s6 := t6.size
        clear ht6 t6 hzs hz
        go_wp2_with fail
        refine (items_any HT6.out).mono ?_
        rintro e w7 ⟨v7, rfl, hl7, b7⟩
        have hzl2 := HT6.out.len
        obtain ⟨A7, c7, rfl, hr7, hn7, hc7⟩ := hl7.reads (by omega)
        have R7 := hid hr7
        have HT7 := hid (HT6.out.below b7)
        have HC7 := hid (HC6.out.below b7)
        have HL7 := hid (HL6.out.below b7)
        have B7 := hid (below_tr B6.out (by omega) b7)
        have s7 := b7.size
        clear b7 hr7
        have P7 := hid hl7.plain
        have P3 := hid HL7.out.plain
        clear hl7
        obtain ⟨ln, hln⟩ : ∃ ln, zs.length = ln := ⟨_, rfl⟩
        have HLN := hid hln
        rw [hln] at hzl hc7
        have dz : decide (s ≤ ln) = true := by simpa using hzl
        have dz2 : decide ((s : Int) ≤ (ln : Int)) = true := by simp; omega
        have hz7 : s ≤ c7 := by omega
        have hz3 : s ≤ c3 := by omega
        rw [hln]
        clear hln
        go_upto_region 13 with (fail)
        have b8 : Below w7.heap.size w7 w7.drew := (Below.refl _ _).drew
        refine start_held (n := 36) (l := #[false, false, false, false, false, false, false, false, false, false, false, false, false, false, false, false, false, false, false, false, false, false, false, false, false, false, false, false, false, false, false, false, false, false, false, false]) (S := fun _ => True) (by kernel_rfl) trivial (by kernel_rfl) (by kernel_rfl) ?_
        obtain ⟨W8, hW8⟩ : ∃ W, w7.drew = W := ⟨_, rfl⟩
        rw [hW8] at b8 ⊢
        have HT8 := hid (HT7.out.below b8)
        have HC8 := hid (HC7.out.below b8)
        have R78 := hid (R7.out.below b8)
        have HL8 := hid (HL7.out.below b8)
        have B8 := hid (below_tr B7.out (by omega) b8)
        have s8 : T < W8.heap.size := by have := b8.size; omega
        clear b8 hW8
        refine take_held (i := 0) (v := ?_) rfl (by kernel_rfl) (by kernel_rfl) (by kernel_rfl) (fun _ _ _ h => h) (by kernel_rfl) ?_ trivial ?_
        rotate_left
        · (rintro w s1; go_simp; try with_reducible rfl)
        simp only [Act.put, List.setIfInBounds_toArray, List.set_cons_zero, List.set_cons_succ]
        refine take_held (i := 1) (v := ?_) rfl (by kernel_rfl) (by kernel_rfl) (by kernel_rfl) (fun _ _ _ h => h) (by kernel_rfl) ?_ trivial ?_
        rotate_left
        · (rintro w s1; go_simp; try with_reducible rfl)
        simp only [Act.put, List.setIfInBounds_toArray, List.set_cons_zero, List.set_cons_succ]
        refine take_held (i := 2) (v := ?_) rfl (by kernel_rfl) (by kernel_rfl) (by kernel_rfl) (fun _ _ _ h => h) (by kernel_rfl) ?_ trivial ?_
        rotate_left
        · (rintro w s1; go_simp; try with_reducible rfl)
        simp only [Act.put, List.setIfInBounds_toArray, List.set_cons_zero, List.set_cons_succ]
        refine take_held (i := 3) (v := ?_) rfl (by kernel_rfl) (by kernel_rfl) (by kernel_rfl) (fun _ _ _ h => h) (by kernel_rfl) ?_ trivial ?_
        rotate_left
        · (rintro w s1; go_simp; try with_reducible rfl)
        simp only [Act.put, List.setIfInBounds_toArray, List.set_cons_zero, List.set_cons_succ]
        refine take_held (i := 4) (v := ?_) rfl (by kernel_rfl) (by kernel_rfl) (by kernel_rfl) (fun _ _ _ h => h) (by kernel_rfl) ?_ trivial ?_
        rotate_left
        · (rintro w s1; go_simp; try with_reducible rfl)
        simp only [Act.put, List.setIfInBounds_toArray, List.set_cons_zero, List.set_cons_succ]
        refine take_held (i := 5) (v := ?_) rfl (by kernel_rfl) (by kernel_rfl) (by kernel_rfl) (fun _ _ _ h => h) (by kernel_rfl) ?_ trivial ?_
        rotate_left
        · (rintro w s1; go_simp; try with_reducible rfl)
        simp only [Act.put, List.setIfInBounds_toArray, List.set_cons_zero, List.set_cons_succ]
        refine take_held (i := 6) (v := ?_) rfl (by kernel_rfl) (by kernel_rfl) (by kernel_rfl) (fun _ _ _ h => h) (by kernel_rfl) ?_ trivial ?_
        rotate_left
        · (rintro w s1; go_simp; try with_reducible rfl)
        simp only [Act.put, List.setIfInBounds_toArray, List.set_cons_zero, List.set_cons_succ]
        refine take_held (i := 7) (v := .slice A7 s c7) rfl (by kernel_rfl) (by kernel_rfl) (by kernel_rfl) (fun _ _ _ h => h) (by kernel_rfl) ?_ trivial ?_
        · (rintro w s1; exact slice_first _ _ A7 ln c7 s rfl (by kernel_rfl) (by kernel_rfl) P7.out hz7)
        simp only [Act.put, List.setIfInBounds_toArray, List.set_cons_zero, List.set_cons_succ]
        refine take_held (i := 8) (v := ?_) rfl (by kernel_rfl) (by kernel_rfl) (by kernel_rfl) (fun _ _ _ h => h) (by kernel_rfl) ?_ trivial ?_
        rotate_left
        · (rintro w s1; go_simp; try with_reducible rfl)
        simp only [Act.put, List.setIfInBounds_toArray, List.set_cons_zero, List.set_cons_succ]
        refine take_held (i := 9) (v := ?_) rfl (by kernel_rfl) (by kernel_rfl) (by kernel_rfl) (fun _ _ _ h => h) (by kernel_rfl) ?_ trivial ?_
        rotate_left
        · (rintro w s1; go_simp; try with_reducible rfl)
        simp only [Act.put, List.setIfInBounds_toArray, List.set_cons_zero, List.set_cons_succ]
        refine take_held (i := 10) (v := .slice A3 s c3) rfl (by kernel_rfl) (by kernel_rfl) (by kernel_rfl) (fun _ _ _ h => h) (by kernel_rfl) ?_ trivial ?_
        · (rintro w s1; exact slice_first _ _ A3 ys.length c3 s rfl (by kernel_rfl) (by kernel_rfl) P3.out hz3)
        simp only [Act.put, List.setIfInBounds_toArray, List.set_cons_zero, List.set_cons_succ]
        refine one_held (i := 11) rfl (by kernel_rfl) (by kernel_rfl) (fun K hK => ?_)
        have HK := hid hK
        clear hK
        go_simp
        obtain ⟨_, _, he, hr3, _⟩ := HL8.out.reads (by omega)
        cases he
        refine (same_first c7 c3 s R78.out hr3 HZ.out hsl).mono ?_
        rintro e w9 ⟨rfl, b9⟩
        have HT9 := hid (HT8.out.below b9)
        have HC9 := hid (HC8.out.below b9)
        have HL9 := hid (HL8.out.below b9)
        have B9 := hid (below_tr B8.out (by omega) b9)
        have s9 : T < w9.heap.size := by have := b9.size; omega
        clear hr3 b9
        refine HK.out _ _ ⟨trivial, ?_⟩
        clear HK K
        try simp only [Act.put, List.setIfInBounds_toArray, List.set_cons_zero, List.set_cons_succ]
        refine take_held (i := 12) (v := ?_) rfl (by kernel_rfl) (by kernel_rfl) (by kernel_rfl) (fun _ _ _ h => h) (by kernel_rfl) ?_ trivial ?_
        rotate_left
        · (rintro w s1; go_simp; try with_reducible rfl)
        simp only [Act.put, List.setIfInBounds_toArray, List.set_cons_zero, List.set_cons_succ]
        refine take_held (i := 13) (v := ?_) rfl (by kernel_rfl) (by kernel_rfl) (by kernel_rfl) (fun _ _ _ h => h) (by kernel_rfl) ?_ trivial ?_
        rotate_left
        · (rintro w s1; go_simp; try with_reducible rfl)
        simp only [Act.put, List.setIfInBounds_toArray, List.set_cons_zero, List.set_cons_succ]
        refine take_held (i := 14) (v := ?_) rfl (by kernel_rfl) (by kernel_rfl) (by kernel_rfl) (fun _ _ _ h => h) (by kernel_rfl) ?_ trivial ?_
        rotate_left
        · (rintro w s1; go_simp; try with_reducible rfl)
        simp only [Act.put, List.setIfInBounds_toArray, List.set_cons_zero, List.set_cons_succ]
        refine take_held (i := 16) (v := ?_) rfl (by kernel_rfl) (by kernel_rfl) (by kernel_rfl) (fun _ _ _ h => h) (by kernel_rfl) ?_ trivial ?_
        rotate_left
        · (rintro w s1; go_simp; try with_reducible rfl)
        simp only [Act.put, List.setIfInBounds_toArray, List.set_cons_zero, List.set_cons_succ]
        refine take_held (i := 17) (v := ?_) rfl (by kernel_rfl) (by kernel_rfl) (by kernel_rfl) (fun _ _ _ h => h) (by kernel_rfl) ?_ trivial ?_
        rotate_left
        · (rintro w s1; go_simp; try with_reducible rfl)
        simp only [Act.put, List.setIfInBounds_toArray, List.set_cons_zero, List.set_cons_succ]
        refine one_held (i := 15) rfl (by kernel_rfl) (by kernel_rfl) (fun K hK => ?_)
        have HK := hid hK
        clear hK
        go_simp
        refine (safe_any HT9.out).mono ?_
        rintro e w10 ⟨rfl, rfl⟩
        rw [HLN.out]
        refine HK.out _ _ ⟨trivial, ?_⟩
        clear HK K
        try simp only [Act.put, List.setIfInBounds_toArray, List.set_cons_zero, List.set_cons_succ]
        refine take_held (i := 18) (v := ?_) rfl (by kernel_rfl) (by kernel_rfl) (by kernel_rfl) (fun _ _ _ h => h) (by kernel_rfl) ?_ trivial ?_
        rotate_left
        · (rintro w s1; go_simp; try with_reducible rfl)
        simp only [Act.put, List.setIfInBounds_toArray, List.set_cons_zero, List.set_cons_succ]
        refine take_held (i := 19) (v := ?_) rfl (by kernel_rfl) (by kernel_rfl) (by kernel_rfl) (fun _ _ _ h => h) (by kernel_rfl) ?_ trivial ?_
        rotate_left
        · (rintro w s1; go_simp; try with_reducible rfl)
        simp only [Act.put, List.setIfInBounds_toArray, List.set_cons_zero, List.set_cons_succ]
        refine take_held (i := 20) (v := ?_) rfl (by kernel_rfl) (by kernel_rfl) (by kernel_rfl) (fun _ _ _ h => h) (by kernel_rfl) ?_ trivial ?_
        rotate_left
        · (rintro w s1; go_simp; try with_reducible rfl)
        simp only [Act.put, List.setIfInBounds_toArray, List.set_cons_zero, List.set_cons_succ]
        refine take_held (i := 21) (v := ?_) rfl (by kernel_rfl) (by kernel_rfl) (by kernel_rfl) (fun _ _ _ h => h) (by kernel_rfl) ?_ trivial ?_
        rotate_left
        · (rintro w s1; go_simp; try with_reducible rfl)
        simp only [Act.put, List.setIfInBounds_toArray, List.set_cons_zero, List.set_cons_succ]
        refine take_held (i := 23) (v := ?_) rfl (by kernel_rfl) (by kernel_rfl) (by kernel_rfl) (fun _ _ _ h => h) (by kernel_rfl) ?_ trivial ?_
        rotate_left
        · (rintro w s1; go_simp; try with_reducible rfl)
        simp only [Act.put, List.setIfInBounds_toArray, List.set_cons_zero, List.set_cons_succ]
        refine one_held (i := 22) rfl (by kernel_rfl) (by kernel_rfl) (fun K hK => ?_)
        have HK := hid hK
        clear hK
        go_simp
        refine (items_any HC9.out).mono ?_
        rintro e w11 ⟨v11, rfl, hl11, b11⟩
        obtain ⟨A11, c11, rfl, hr11, _⟩ := hl11.reads (by omega)
        obtain ⟨_, _, he, hr3, _⟩ := (HL9.out.below b11).reads (by omega)
        cases he
        have R11 := hid hr11
        have R3 := hid hr3
        have HC11 := hid (HC9.out.below b11)
        have B11 := hid (below_tr B9.out (by omega) b11)
        have s11 : T < w11.heap.size := by have := b11.size; omega
        clear hl11 hr11 hr3 b11
        refine HK.out _ _ ⟨trivial, ?_⟩
        clear HK K
        try simp only [Act.put, List.setIfInBounds_toArray, List.set_cons_zero, List.set_cons_succ]
        refine one_held (i := 24) rfl (by kernel_rfl) (by kernel_rfl) (fun K hK => ?_)
        have HK := hid hK
        clear hK
        go_simp
        refine (same_tape c11 c3 R11.out R3.out).mono ?_
        rintro e w12 ⟨rfl, b12⟩
        have HC12 := hid (HC11.out.below b12)
        have B12 := hid (below_tr B11.out (by omega) b12)
        have s12 : T < w12.heap.size := by have := b12.size; omega
        clear b12
        refine HK.out _ _ ⟨trivial, ?_⟩
        clear HK K
        try simp only [Act.put, List.setIfInBounds_toArray, List.set_cons_zero, List.set_cons_succ]
        refine take_held (i := 25) (v := ?_) rfl (by kernel_rfl) (by kernel_rfl) (by kernel_rfl) (fun _ _ _ h => h) (by kernel_rfl) ?_ trivial ?_
        rotate_left
        · (rintro w s1; go_simp; try with_reducible rfl)
        simp only [Act.put, List.setIfInBounds_toArray, List.set_cons_zero, List.set_cons_succ]
        refine take_held (i := 26) (v := ?_) rfl (by kernel_rfl) (by kernel_rfl) (by kernel_rfl) (fun _ _ _ h => h) (by kernel_rfl) ?_ trivial ?_
        rotate_left
        · (rintro w s1; go_simp; try with_reducible rfl)
        simp only [Act.put, List.setIfInBounds_toArray, List.set_cons_zero, List.set_cons_succ]
        refine take_held (i := 27) (v := ?_) rfl (by kernel_rfl) (by kernel_rfl) (by kernel_rfl) (fun _ _ _ h => h) (by kernel_rfl) ?_ trivial ?_
        rotate_left
        · (rintro w s1; go_simp; try with_reducible rfl)
        simp only [Act.put, List.setIfInBounds_toArray, List.set_cons_zero, List.set_cons_succ]
        refine take_held (i := 29) (v := ?_) rfl (by kernel_rfl) (by kernel_rfl) (by kernel_rfl) (fun _ _ _ h => h) (by kernel_rfl) ?_ trivial ?_
        rotate_left
        · (rintro w s1; go_simp; try with_reducible rfl)
        simp only [Act.put, List.setIfInBounds_toArray, List.set_cons_zero, List.set_cons_succ]
        refine one_held (i := 28) rfl (by kernel_rfl) (by kernel_rfl) (fun K hK => ?_)
        have HK := hid hK
        clear hK
        go_simp
        refine (safe_any HC12.out).mono ?_
        rintro e w13 ⟨rfl, rfl⟩
        refine HK.out _ _ ⟨trivial, ?_⟩
        clear HK K
        try simp only [Act.put, List.setIfInBounds_toArray, List.set_cons_zero, List.set_cons_succ]
        refine take_held (i := 30) (v := ?_) rfl (by kernel_rfl) (by kernel_rfl) (by kernel_rfl) (fun _ _ _ h => h) (by kernel_rfl) ?_ trivial ?_
        rotate_left
        · (rintro w s1; go_simp; try with_reducible rfl)
        simp only [Act.put, List.setIfInBounds_toArray, List.set_cons_zero, List.set_cons_succ]
        refine take_held (i := 31) (v := ?_) rfl (by kernel_rfl) (by kernel_rfl) (by kernel_rfl) (fun _ _ _ h => h) (by kernel_rfl) ?_ trivial ?_
        rotate_left
        · (rintro w s1; go_simp; try with_reducible rfl)
        simp only [Act.put, List.setIfInBounds_toArray, List.set_cons_zero, List.set_cons_succ]
        refine take_held (i := 32) (v := ?_) rfl (by kernel_rfl) (by kernel_rfl) (by kernel_rfl) (fun _ _ _ h => h) (by kernel_rfl) ?_ trivial ?_
        rotate_left
        · (rintro w s1; go_simp; try with_reducible rfl)
        simp only [Act.put, List.setIfInBounds_toArray, List.set_cons_zero, List.set_cons_succ]
        refine one_held (i := 33) rfl (by kernel_rfl) (by kernel_rfl) (fun K hK => ?_)
        have HK := hid hK
        clear hK
        go_simp
        refine (awake_any _).mono ?_
        rintro e w14 ⟨rfl, b14⟩
        have B14 := hid (below_tr B12.out (by omega) b14)
        clear b14
        refine HK.out _ _ ⟨trivial, ?_⟩
        clear HK K
        try simp only [Act.put, List.setIfInBounds_toArray, List.set_cons_zero, List.set_cons_succ]
        refine take_held (i := 34) (v := ?_) rfl (by kernel_rfl) (by kernel_rfl) (by kernel_rfl) (fun _ _ _ h => h) (by kernel_rfl) ?_ trivial ?_
        rotate_left
        · (rintro w s1; go_simp; try with_reducible rfl)
        simp only [Act.put, List.setIfInBounds_toArray, List.set_cons_zero, List.set_cons_succ]
        refine take_held (i := 35) (v := ?_) rfl (by kernel_rfl) (by kernel_rfl) (by kernel_rfl) (fun _ _ _ h => h) (by kernel_rfl) ?_ trivial ?_
        rotate_left
        · (rintro w s1; go_simp; try with_reducible rfl)
        simp only [Act.put, List.setIfInBounds_toArray, List.set_cons_zero, List.set_cons_succ]
        refine wpAnyH_done (by kernel_rfl) ?_ _
        go_wp2
        go_ret
        exact ⟨rfl, by rw [HTT.out]; exact B14.out⟩
theorem law_keeps {w : World} {D : Option Addr} {ds : List Step} {cD : Nat} (h : ReadsD w D ds) (cp keep torn : Int) :
    Calls Try.prog 8 #[.int .i64 cp, .slice D ds.length cD, .int .i64 keep, .int .i64 torn] w fun e w' => e = .returned (.bool true) ∧ Below w.heap.size w w' := by
  by_cases hn : cp < 0 ∨ 16777216 < cp
  · exact keeps_out h cp keep torn hn
  · obtain ⟨n, rfl⟩ : ∃ n : Nat, cp = n := ⟨cp.toNat, by omega⟩
    exact keeps_in h n keep torn (by omega)
end Go.Proofs.Ythieemfcmehdiaa
