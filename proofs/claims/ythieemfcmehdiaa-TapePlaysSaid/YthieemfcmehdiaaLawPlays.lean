/- TapePlays (func 3): the walk: for every input it returns true. -/
import Derived.Test.YthieemfcmehdiaaSteps
import Derived.Test.YthieemfcmehdiaaSameT
import Derived.Test.YthieemfcmehdiaaSame
namespace Go.Proofs.Ythieemfcmehdiaa
open Go.RowKit
set_option linter.unusedSimpArgs false
set_option linter.unusedVariables false
/-- what the round's region reads: the document's box -/
structure PlayS (G cap n safe : Nat) (A : Option Addr) (c : Nat) (w : World) : Prop where
  q0 : w.cell? ⟨G, 0, none⟩ = some (.int .i64 cap)
  q1 : w.cell? ⟨G, 1, none⟩ = some (.slice A n c)
  q2 : w.cell? ⟨G, 2, none⟩ = some (.int .i64 safe)
theorem PlayS.below {G cap n safe c : Nat} {A : Option Addr} {w w' : World} (h : PlayS G cap n safe A c w) (b : Below w.heap.size w w') : PlayS G cap n safe A c w' := ⟨cell_below b h.q0, cell_below b h.q1, cell_below b h.q2⟩
theorem playS {G cap n safe c : Nat} {A : Option Addr} {w : World} (h : w.heap[G]? = some (.cells #[.int .i64 cap, .slice A n c, .int .i64 safe] 29 (0, 0))) : PlayS G cap n safe A c w := ⟨(cell_of_row w _ 0 _ _ _ h).trans rfl, (cell_of_row w _ 1 _ _ _ h).trans rfl, (cell_of_row w _ 2 _ _ _ h).trans rfl⟩
theorem Both.below {T G cap : Nat} {w w' : World} (h : Both T G cap w) (b : Below w.heap.size w w') : Both T G cap w' := by
  obtain ⟨ys, s, A, c, A2, c2, h1, h2, h3, h4⟩ := h
  exact ⟨ys, s, A, c, A2, c2, h1.below b, h2.keep (Rest.below b), (b.block G (Array.getElem?_eq_some_iff.1 h3).1).trans h3, h4⟩
set_option maxHeartbeats 4000000 in
set_option maxRecDepth 100000 in
theorem plays_out {w : World} {D : Option Addr} {ds : List Step} {cD : Nat} (h : ReadsD w D ds) (cp : Int) (hn : cp < 0 ∨ 16777216 < cp) :
    Calls Try.prog 3 #[.int .i64 cp, .slice D ds.length cD] w fun e w' => e = .returned (.bool true) ∧ Below w.heap.size w w' := by
  have HN := hid hn
  by_cases h0 : cp < 0
  · have d0 : decide (cp < 0) = true := by simpa using h0
    clear h hn h0
    go_enter Try.func3, Try.ntmps3
    go_wp2_with fail
    refine (new_no cp w HN.out).mono ?_
    rintro e w1 ⟨rfl, rfl⟩
    go_wp2_with fail
    refine (awake_any w).mono ?_
    rintro e w1 ⟨rfl, b1⟩
    have B1 := hid b1
    clear b1
    go_wp2
    go_ret
    exact ⟨rfl, B1.out⟩
  · have d0 : decide (cp < 0) = false := by simpa using h0
    have d1 : decide ((16777216 : Int) < cp) = true := by simp; omega
    clear h hn h0
    go_enter Try.func3, Try.ntmps3
    go_wp2_with fail
    refine (new_no cp w HN.out).mono ?_
    rintro e w1 ⟨rfl, rfl⟩
    go_wp2_with fail
    refine (awake_any w).mono ?_
    rintro e w1 ⟨rfl, b1⟩
    have B1 := hid b1
    clear b1
    go_wp2
    go_ret
    exact ⟨rfl, B1.out⟩
set_option maxHeartbeats 8000000 in
set_option maxRecDepth 100000 in
theorem plays_in {w : World} {D : Option Addr} {ds : List Step} {cD : Nat} (h : ReadsD w D ds) (n : Nat) (hn : n ≤ 16777216) :
    Calls Try.prog 3 #[.int .i64 (n : Int), .slice D ds.length cD] w fun e w' => e = .returned (.bool true) ∧ Below w.heap.size w w' := by
  have H := hid h
  have hl := h.1
  clear h
  go_enter Try.func3, Try.ntmps3
  go_wp2_with fail
  refine (new_yes n w hn).mono ?_
  rintro e w1 ⟨rfl, hw1⟩
  have h1 := tape_new w n hn
  rw [← hw1] at h1
  have b1 : Below w.heap.size w w1 := by rw [hw1]; exact below_new _ _
  have H1 := hid h1
  have B1 := hid b1
  have D1 := hid (H.out.below b1)
  have S1 : Hid (w1.heap.size = w.heap.size + 1) := hid (by rw [hw1]; simp)
  clear hw1 h1 b1
  go_wp2_with fail
  refine (few_any D1.out).mono ?_
  rintro e w2 ⟨⟨bb, rfl, hbb⟩, rfl⟩
  cases bb with
  | false =>
    have d0 : decide ((n : Int) < 0) = false := by simp
    have d1 : decide ((16777216 : Int) < (n : Int)) = false := by simp; omega
    go_wp2_with fail
    refine (awake_any _).mono ?_
    rintro e w3 ⟨rfl, b3⟩
    have B3 := hid (below_trans B1.out b3)
    clear b3
    go_wp2
    go_ret
    exact ⟨rfl, B3.out⟩
  | true =>
    have HF := hid (hbb rfl)
    clear hbb
    go_wp2_with fail
    have q := block_new w2 (.cells #[.int .i64 n, .slice none 0 0, .int .i64 0] 29)
    have bb := below_new w2 (.cells #[.int .i64 n, .slice none 0 0, .int .i64 0] 29)
    have h2 := H1.out.below bb
    have bT := hid (below_trans B1.out bb)
    have hTG : w.heap.size < w2.heap.size := by have := S1.out; omega
    obtain ⟨W, hW⟩ : ∃ x, w2.alloc (.cells #[.int .i64 n, .slice none 0 0, .int .i64 0] 29) = x := ⟨_, rfl⟩
    rw [hW] at q bb h2 bT ⊢
    obtain ⟨G, hG⟩ : ∃ G, w2.heap.size = G := ⟨_, rfl⟩
    rw [hG] at q hTG ⊢
    have DW := hid (fun i hi => H.out.out (i := i) bT.out hi)
    have RW := hid (H.out.below bT.out)
    obtain ⟨T, hT⟩ : ∃ T, w.heap.size = T := ⟨_, rfl⟩
    have HTT := hid hT
    rw [hT] at h2 bT DW hTG ⊢
    have B2 := hid (both_new h2 hn q)
    have HB200 := hid HF.out.2
    clear hW hG hT q bb h2 HF
    go_loopw [36] (fun i wr => ∃ k : Nat, k ≤ ds.length ∧ i = .int .i64 k ∧ Hid (Both T G n wr) ∧ Hid (Below T w wr) ∧ Hid (T ≤ wr.heap.size)) (fun i _ => ds.length - (intOf i).toNat)
    case atStart => exact ⟨0, by omega, rfl, B2, bT, hid (by have := bT.out.size; have := HTT.out; omega)⟩
    case round =>
      obtain ⟨k, hk, rfl, HB, HW, HS⟩ := hrel
      obtain ⟨wo, rfl⟩ : ∃ wo : World, wo = wr := ⟨_, rfl⟩
      obtain ⟨ys, s, A, c, A2, c2, ht, hr, hg, hmk⟩ := HB.out
      by_cases hlt : k < ds.length
      · have dl : decide (k < ds.length) = true := by simpa using hlt
        have bwo : Below w.heap.size w wo := by rw [HTT.out]; exact HW.out
        obtain ⟨ad, rfl, a0, a1, a2, a3, _⟩ := (H.out.below bwo).2 k hlt
        have hbo := H.out.out bwo k hlt
        rw [HTT.out] at hbo
        have hir := in_round ht hr hg hbo (HB200.out k hlt) hmk
        obtain ⟨x, hx⟩ : ∃ x, ds[k] = x := ⟨_, rfl⟩
        rw [hx] at a0 a1 a2 a3 hir
        have hki : (k : Int) < (ds.length : Int) := by omega
        have hk0 : (0 : Int) ≤ (k : Int) := by omega
        have HIR := hid hir
        clear hx hbo ht hr hg bwo hir hmk
        go_upto_region 8 with (fail)
        obtain ⟨W5, hW5⟩ : ∃ W5, wo.alloc (.cells #[.int .i64 x.verb, .int .i64 x.n, .int .i64 x.m, .slice x.B x.l.length x.k] 32) = W5 := ⟨_, rfl⟩
        have HW5 := hid hW5
        rw [hW5] at HIR ⊢
        obtain ⟨D5, hD5⟩ : ∃ D5, wo.heap.size = D5 := ⟨_, rfl⟩
        have HD5 := hid hD5
        rw [hD5] at HIR ⊢
        have r0 := HIR.out.r0
        have r1 := HIR.out.r1
        have r2 := HIR.out.r2
        have d0 := HIR.out.d0
        have d1 := HIR.out.d1
        have d2 := HIR.out.d2
        have d3 := HIR.out.d3
        clear hW5 hD5 a0 a1 a2 a3
        go_wp2_with fail
        refine HIR.out.does.mono ?_
        rintro e w6 ⟨ys', s', hd⟩
        obtain ⟨A3, c3, rfl, hbx, t6⟩ := box_of HIR.out hd (Nat.ne_of_lt hTG)
        have f6 := hbx.cells.1
        have g60 := hbx.cells.2.1
        have g61 := hbx.cells.2.2.1
        have g62 := hbx.cells.2.2.2
        have hbw := below_does _ HW.out HS.out (by rw [HW5.out]; exact t6)
        have HBX := hid hbx
        have B6 := hid hbw.1
        have HS6 := hid hbw.2
        clear hbx hd t6 f6 g60 g61 g62 hbw
        go_upto_region 9 with (fail)
        have bb := below_new w6 (.cells #[.int .i64 n, .slice A3 ys'.length c3, .int .i64 s'] 29)
        have e0 : (w6.alloc (.cells #[.int .i64 n, .slice A3 ys'.length c3, .int .i64 s'] 29)).cell? ⟨w6.heap.size, 0, none⟩ = some (.int .i64 n) := (cell_new w6 _ 29 (0, 0) 0).trans rfl
        have e1 : (w6.alloc (.cells #[.int .i64 n, .slice A3 ys'.length c3, .int .i64 s'] 29)).cell? ⟨w6.heap.size, 1, none⟩ = some (.slice A3 ys'.length c3) := (cell_new w6 _ 29 (0, 0) 1).trans rfl
        have e2 : (w6.alloc (.cells #[.int .i64 n, .slice A3 ys'.length c3, .int .i64 s'] 29)).cell? ⟨w6.heap.size, 2, none⟩ = some (.int .i64 s') := (cell_new w6 _ 29 (0, 0) 2).trans rfl
        obtain ⟨W7, hW7⟩ : ∃ Wn, w6.alloc (.cells #[.int .i64 n, .slice A3 ys'.length c3, .int .i64 s'] 29) = Wn := ⟨_, rfl⟩
        rw [hW7] at bb e0 e1 e2 ⊢
        have HBX7 := hid (HBX.out.below bb)
        have B7 := hid (below_tr B6.out HS6.out bb)
        have HS7 := hid (Nat.le_trans HS6.out bb.size)
        have n7 := HBX7.out.next (Nat.ne_of_lt hTG)
        have b7 := below_three B7.out HS7.out (Nat.le_of_lt hTG) (.int .i64 n) (.slice A3 ys'.length c3) (.int .i64 s')
        have f7 := HBX7.out.cells.1
        obtain ⟨v60, g60⟩ := HBX7.out.cells.2.1
        obtain ⟨v61, g61⟩ := HBX7.out.cells.2.2.1
        obtain ⟨v62, g62⟩ := HBX7.out.cells.2.2.2
        have f60 := f7 0
        have f61 := f7 1
        have f62 := f7 2
        have N7 := hid n7
        have B8 := hid b7
        obtain ⟨H6, hH6⟩ : ∃ g, w6.heap.size = g := ⟨_, rfl⟩
        rw [hH6] at e0 e1 e2 ⊢
        clear hW7 bb n7 b7 f7 hH6 r0 r1 r2 d0 d1 d2 d3
        go_upto_region 10 with (fail)
        obtain ⟨W8, hW8⟩ : ∃ Wn, ((W7.setCell ⟨G, 0, none⟩ (.int .i64 n)).setCell ⟨G, 1, none⟩ (.slice A3 ys'.length c3)).setCell ⟨G, 2, none⟩ (.int .i64 s') = Wn := ⟨_, rfl⟩
        have hs8 : T ≤ W8.heap.size := by rw [← hW8]; simpa using HS7.out
        rw [hW8] at N7 B8 ⊢
        have HS8 := hid hs8
        clear hW8 hs8 e0 e1 e2 g60 g61 g62 f60 f61 f62
        obtain ⟨zs, z, A8, c8, A9, c9, ht8, hr8, hg8, hm8⟩ := N7.out
        have HT8 := hid ht8
        have HR8 := hid hr8
        obtain ⟨rv, hrv⟩ : ∃ rv : Int, (n : Int) - used zs = rv := ⟨_, rfl⟩
        have hrb : 0 ≤ rv ∧ rv ≤ 16777216 := by have := ht8.fits; have := ht8.small; omega
        have wrv : IntKind.i64.wrap (8 * rv) = 8 * rv := IntWalk.i64_in _ (by omega)
        have HRV := hid hrv
        have hS := playS hg8
        have hzl := ht8.len
        clear ht8 hr8 hg8 hm8 hrv
        have b9 : Below W8.heap.size W8 W8.drew := (Below.refl _ _).drew
        refine start_held (n := 42) (l := (false :: false :: false :: false :: false :: false :: false :: false :: false :: false :: false :: false :: false :: false :: false :: false :: false :: false :: false :: false :: false :: false :: false :: false :: false :: false :: false :: false :: false :: false :: false :: false :: false :: false :: false :: false :: false :: false :: false :: false :: false :: false :: []).toArray) (S := PlayS G n zs.length z A9 c9) (by kernel_rfl) (hS.below b9) (by kernel_rfl) (by kernel_rfl) ?_
        obtain ⟨W9, hW9⟩ : ∃ n, W8.drew = n := ⟨_, rfl⟩
        rw [hW9] at b9 ⊢
        have N9 := hid (N7.out.below b9)
        have HT9 := hid (HT8.out.below b9)
        have HR9 := hid (HR8.out.keep (Rest.below b9))
        have hS := hS.below b9
        have B9 := hid (below_tr B8.out HS8.out b9)
        have HS9 := hid (Nat.le_trans HS8.out b9.size)
        clear b9 hW9
        refine take_held (i := 0) (v := ?_) rfl (by kernel_rfl) (by kernel_rfl) (by kernel_rfl) (fun _ _ _ h => h) (by kernel_rfl) ?_ hS ?_
        rotate_left
        · (rintro w s1; obtain ⟨q0, q1, q2⟩ := s1; go_simp; try with_reducible rfl)
        simp only [Act.put, List.setIfInBounds_toArray, List.set_cons_zero, List.set_cons_succ]
        refine take_held (i := 1) (v := ?_) rfl (by kernel_rfl) (by kernel_rfl) (by kernel_rfl) (fun _ _ _ h => h) (by kernel_rfl) ?_ hS ?_
        rotate_left
        · (rintro w s1; obtain ⟨q0, q1, q2⟩ := s1; go_simp; try with_reducible rfl)
        simp only [Act.put, List.setIfInBounds_toArray, List.set_cons_zero, List.set_cons_succ]
        refine take_held (i := 2) (v := ?_) rfl (by kernel_rfl) (by kernel_rfl) (by kernel_rfl) (fun _ _ _ h => h) (by kernel_rfl) ?_ hS ?_
        rotate_left
        · (rintro w s1; obtain ⟨q0, q1, q2⟩ := s1; go_simp; try with_reducible rfl)
        simp only [Act.put, List.setIfInBounds_toArray, List.set_cons_zero, List.set_cons_succ]
        refine take_held (i := 3) (v := ?_) rfl (by kernel_rfl) (by kernel_rfl) (by kernel_rfl) (fun _ _ _ h => h) (by kernel_rfl) ?_ hS ?_
        rotate_left
        · (rintro w s1; obtain ⟨q0, q1, q2⟩ := s1; go_simp; try with_reducible rfl)
        simp only [Act.put, List.setIfInBounds_toArray, List.set_cons_zero, List.set_cons_succ]
        refine take_held (i := 5) (v := ?_) rfl (by kernel_rfl) (by kernel_rfl) (by kernel_rfl) (fun _ _ _ h => h) (by kernel_rfl) ?_ hS ?_
        rotate_left
        · (rintro w s1; obtain ⟨q0, q1, q2⟩ := s1; go_simp; try with_reducible rfl)
        simp only [Act.put, List.setIfInBounds_toArray, List.set_cons_zero, List.set_cons_succ]
        refine take_held (i := 6) (v := ?_) rfl (by kernel_rfl) (by kernel_rfl) (by kernel_rfl) (fun _ _ _ h => h) (by kernel_rfl) ?_ hS ?_
        rotate_left
        · (rintro w s1; obtain ⟨q0, q1, q2⟩ := s1; go_simp; try with_reducible rfl)
        simp only [Act.put, List.setIfInBounds_toArray, List.set_cons_zero, List.set_cons_succ]
        refine one_held (i := 4) rfl (by kernel_rfl) (by kernel_rfl) (fun K hK => ?_)
        have HK := hid hK
        clear hK
        go_simp
        refine (items_any HT9.out).mono ?_
        rintro e w10 ⟨v10, rfl, hl10, b10⟩
        obtain ⟨A10, c10, rfl, hr10, _⟩ := hl10.reads (by omega)
        have R10 := hid hr10
        have HT10 := hid (HT9.out.below b10)
        have HR10 := hid (HR9.out.keep (Rest.below b10))
        have N10 := hid (N9.out.below b10)
        have hS := hS.below b10
        have B10 := hid (below_tr B9.out HS9.out b10)
        have HS10 := hid (Nat.le_trans HS9.out b10.size)
        clear hl10 hr10 b10
        refine HK.out _ _ ⟨hS, ?_⟩
        clear HK K
        try simp only [Act.put, List.setIfInBounds_toArray, List.set_cons_zero, List.set_cons_succ]
        refine one_held (i := 7) rfl (by kernel_rfl) (by kernel_rfl) (fun K hK => ?_)
        have HK := hid hK
        clear hK
        go_simp
        refine (same_any c10 c9 R10.out HR10.out.readsI hzl).mono ?_
        rintro e w11 ⟨rfl, b11⟩
        have HT11 := hid (HT10.out.below b11)
        have HR11 := hid (HR10.out.keep (Rest.below b11))
        have N11 := hid (N10.out.below b11)
        have hS := hS.below b11
        have B11 := hid (below_tr B10.out HS10.out b11)
        have HS11 := hid (Nat.le_trans HS10.out b11.size)
        clear b11
        refine HK.out _ _ ⟨hS, ?_⟩
        clear HK K
        try simp only [Act.put, List.setIfInBounds_toArray, List.set_cons_zero, List.set_cons_succ]
        refine take_held (i := 8) (v := ?_) rfl (by kernel_rfl) (by kernel_rfl) (by kernel_rfl) (fun _ _ _ h => h) (by kernel_rfl) ?_ hS ?_
        rotate_left
        · (rintro w s1; obtain ⟨q0, q1, q2⟩ := s1; go_simp; try with_reducible rfl)
        simp only [Act.put, List.setIfInBounds_toArray, List.set_cons_zero, List.set_cons_succ]
        refine take_held (i := 9) (v := ?_) rfl (by kernel_rfl) (by kernel_rfl) (by kernel_rfl) (fun _ _ _ h => h) (by kernel_rfl) ?_ hS ?_
        rotate_left
        · (rintro w s1; obtain ⟨q0, q1, q2⟩ := s1; go_simp; try with_reducible rfl)
        simp only [Act.put, List.setIfInBounds_toArray, List.set_cons_zero, List.set_cons_succ]
        refine take_held (i := 10) (v := ?_) rfl (by kernel_rfl) (by kernel_rfl) (by kernel_rfl) (fun _ _ _ h => h) (by kernel_rfl) ?_ hS ?_
        rotate_left
        · (rintro w s1; obtain ⟨q0, q1, q2⟩ := s1; go_simp; try with_reducible rfl)
        simp only [Act.put, List.setIfInBounds_toArray, List.set_cons_zero, List.set_cons_succ]
        refine take_held (i := 11) (v := ?_) rfl (by kernel_rfl) (by kernel_rfl) (by kernel_rfl) (fun _ _ _ h => h) (by kernel_rfl) ?_ hS ?_
        rotate_left
        · (rintro w s1; obtain ⟨q0, q1, q2⟩ := s1; go_simp; try with_reducible rfl)
        simp only [Act.put, List.setIfInBounds_toArray, List.set_cons_zero, List.set_cons_succ]
        refine take_held (i := 13) (v := ?_) rfl (by kernel_rfl) (by kernel_rfl) (by kernel_rfl) (fun _ _ _ h => h) (by kernel_rfl) ?_ hS ?_
        rotate_left
        · (rintro w s1; obtain ⟨q0, q1, q2⟩ := s1; go_simp; try with_reducible rfl)
        simp only [Act.put, List.setIfInBounds_toArray, List.set_cons_zero, List.set_cons_succ]
        refine take_held (i := 14) (v := ?_) rfl (by kernel_rfl) (by kernel_rfl) (by kernel_rfl) (fun _ _ _ h => h) (by kernel_rfl) ?_ hS ?_
        rotate_left
        · (rintro w s1; obtain ⟨q0, q1, q2⟩ := s1; go_simp; try with_reducible rfl)
        simp only [Act.put, List.setIfInBounds_toArray, List.set_cons_zero, List.set_cons_succ]
        refine one_held (i := 12) rfl (by kernel_rfl) (by kernel_rfl) (fun K hK => ?_)
        have HK := hid hK
        clear hK
        go_simp
        refine (safe_any HT11.out).mono ?_
        rintro e w12 ⟨rfl, rfl⟩
        refine HK.out _ _ ⟨hS, ?_⟩
        clear HK K
        try simp only [Act.put, List.setIfInBounds_toArray, List.set_cons_zero, List.set_cons_succ]
        refine take_held (i := 15) (v := ?_) rfl (by kernel_rfl) (by kernel_rfl) (by kernel_rfl) (fun _ _ _ h => h) (by kernel_rfl) ?_ hS ?_
        rotate_left
        · (rintro w s1; obtain ⟨q0, q1, q2⟩ := s1; go_simp; try with_reducible rfl)
        simp only [Act.put, List.setIfInBounds_toArray, List.set_cons_zero, List.set_cons_succ]
        refine take_held (i := 16) (v := ?_) rfl (by kernel_rfl) (by kernel_rfl) (by kernel_rfl) (fun _ _ _ h => h) (by kernel_rfl) ?_ hS ?_
        rotate_left
        · (rintro w s1; obtain ⟨q0, q1, q2⟩ := s1; go_simp; try with_reducible rfl)
        simp only [Act.put, List.setIfInBounds_toArray, List.set_cons_zero, List.set_cons_succ]
        refine take_held (i := 17) (v := ?_) rfl (by kernel_rfl) (by kernel_rfl) (by kernel_rfl) (fun _ _ _ h => h) (by kernel_rfl) ?_ hS ?_
        rotate_left
        · (rintro w s1; obtain ⟨q0, q1, q2⟩ := s1; go_simp; try with_reducible rfl)
        simp only [Act.put, List.setIfInBounds_toArray, List.set_cons_zero, List.set_cons_succ]
        refine take_held (i := 18) (v := ?_) rfl (by kernel_rfl) (by kernel_rfl) (by kernel_rfl) (fun _ _ _ h => h) (by kernel_rfl) ?_ hS ?_
        rotate_left
        · (rintro w s1; obtain ⟨q0, q1, q2⟩ := s1; go_simp; try with_reducible rfl)
        simp only [Act.put, List.setIfInBounds_toArray, List.set_cons_zero, List.set_cons_succ]
        refine take_held (i := 20) (v := ?_) rfl (by kernel_rfl) (by kernel_rfl) (by kernel_rfl) (fun _ _ _ h => h) (by kernel_rfl) ?_ hS ?_
        rotate_left
        · (rintro w s1; obtain ⟨q0, q1, q2⟩ := s1; go_simp; try with_reducible rfl)
        simp only [Act.put, List.setIfInBounds_toArray, List.set_cons_zero, List.set_cons_succ]
        refine one_held (i := 19) rfl (by kernel_rfl) (by kernel_rfl) (fun K hK => ?_)
        have HK := hid hK
        clear hK
        go_simp
        refine (room_any HT11.out).mono ?_
        rintro e w13 ⟨rfl, q13, hw13⟩
        rw [HRV.out]
        have b13 : Below w12.heap.size w12 w13 := by rw [hw13]; exact (Calm.of_drewN w12 q13).below _
        have HT13 := hid (HT11.out.below b13)
        have HR13 := hid (HR11.out.keep (Rest.below b13))
        have N13 := hid (N11.out.below b13)
        have hS := hS.below b13
        have B13 := hid (below_tr B11.out HS11.out b13)
        have HS13 := hid (Nat.le_trans HS11.out b13.size)
        clear b13 hw13
        refine HK.out _ _ ⟨hS, ?_⟩
        clear HK K
        try simp only [Act.put, List.setIfInBounds_toArray, List.set_cons_zero, List.set_cons_succ]
        refine one_held (i := 21) rfl (by kernel_rfl) (by kernel_rfl) (fun K hK => ?_)
        have HK := hid hK
        clear hK
        go_simp
        refine (room_ref HR13.out).mono ?_
        rintro e w14 ⟨rfl, b14⟩
        rw [HRV.out]
        have HT14 := hid (HT13.out.below b14)
        have HR14 := hid (HR13.out.keep (Rest.below b14))
        have N14 := hid (N13.out.below b14)
        have hS := hS.below b14
        have B14 := hid (below_tr B13.out HS13.out b14)
        have HS14 := hid (Nat.le_trans HS13.out b14.size)
        clear b14
        refine HK.out _ _ ⟨hS, ?_⟩
        clear HK K
        try simp only [Act.put, List.setIfInBounds_toArray, List.set_cons_zero, List.set_cons_succ]
        refine take_held (i := 22) (v := ?_) rfl (by kernel_rfl) (by kernel_rfl) (by kernel_rfl) (fun _ _ _ h => h) (by kernel_rfl) ?_ hS ?_
        rotate_left
        · (rintro w s1; obtain ⟨q0, q1, q2⟩ := s1; go_simp; try with_reducible rfl)
        simp only [Act.put, List.setIfInBounds_toArray, List.set_cons_zero, List.set_cons_succ]
        refine take_held (i := 23) (v := ?_) rfl (by kernel_rfl) (by kernel_rfl) (by kernel_rfl) (fun _ _ _ h => h) (by kernel_rfl) ?_ hS ?_
        rotate_left
        · (rintro w s1; obtain ⟨q0, q1, q2⟩ := s1; go_simp; try with_reducible rfl)
        simp only [Act.put, List.setIfInBounds_toArray, List.set_cons_zero, List.set_cons_succ]
        refine take_held (i := 24) (v := ?_) rfl (by kernel_rfl) (by kernel_rfl) (by kernel_rfl) (fun _ _ _ h => h) (by kernel_rfl) ?_ hS ?_
        rotate_left
        · (rintro w s1; obtain ⟨q0, q1, q2⟩ := s1; go_simp; try with_reducible rfl)
        simp only [Act.put, List.setIfInBounds_toArray, List.set_cons_zero, List.set_cons_succ]
        refine take_held (i := 25) (v := ?_) rfl (by kernel_rfl) (by kernel_rfl) (by kernel_rfl) (fun _ _ _ h => h) (by kernel_rfl) ?_ hS ?_
        rotate_left
        · (rintro w s1; obtain ⟨q0, q1, q2⟩ := s1; go_simp; try with_reducible rfl)
        simp only [Act.put, List.setIfInBounds_toArray, List.set_cons_zero, List.set_cons_succ]
        refine take_held (i := 27) (v := ?_) rfl (by kernel_rfl) (by kernel_rfl) (by kernel_rfl) (fun _ _ _ h => h) (by kernel_rfl) ?_ hS ?_
        rotate_left
        · (rintro w s1; obtain ⟨q0, q1, q2⟩ := s1; go_simp; try with_reducible rfl)
        simp only [Act.put, List.setIfInBounds_toArray, List.set_cons_zero, List.set_cons_succ]
        refine take_held (i := 28) (v := ?_) rfl (by kernel_rfl) (by kernel_rfl) (by kernel_rfl) (fun _ _ _ h => h) (by kernel_rfl) ?_ hS ?_
        rotate_left
        · (rintro w s1; obtain ⟨q0, q1, q2⟩ := s1; go_simp; try with_reducible rfl)
        simp only [Act.put, List.setIfInBounds_toArray, List.set_cons_zero, List.set_cons_succ]
        refine take_held (i := 29) (v := ?_) rfl (by kernel_rfl) (by kernel_rfl) (by kernel_rfl) (fun _ _ _ h => h) (by kernel_rfl) ?_ hS ?_
        rotate_left
        · (rintro w s1; obtain ⟨q0, q1, q2⟩ := s1; go_simp; try with_reducible rfl)
        simp only [Act.put, List.setIfInBounds_toArray, List.set_cons_zero, List.set_cons_succ]
        refine one_held (i := 26) rfl (by kernel_rfl) (by kernel_rfl) (fun K hK => ?_)
        have HK := hid hK
        clear hK
        go_simp
        refine (len_any HT14.out).mono ?_
        rintro e w15 ⟨rfl, rfl⟩
        refine HK.out _ _ ⟨hS, ?_⟩
        clear HK K
        try simp only [Act.put, List.setIfInBounds_toArray, List.set_cons_zero, List.set_cons_succ]
        refine take_held (i := 30) (v := ?_) rfl (by kernel_rfl) (by kernel_rfl) (by kernel_rfl) (fun _ _ _ h => h) (by kernel_rfl) ?_ hS ?_
        rotate_left
        · (rintro w s1; obtain ⟨q0, q1, q2⟩ := s1; go_simp; try with_reducible rfl)
        simp only [Act.put, List.setIfInBounds_toArray, List.set_cons_zero, List.set_cons_succ]
        refine take_held (i := 31) (v := ?_) rfl (by kernel_rfl) (by kernel_rfl) (by kernel_rfl) (fun _ _ _ h => h) (by kernel_rfl) ?_ hS ?_
        rotate_left
        · (rintro w s1; obtain ⟨q0, q1, q2⟩ := s1; go_simp; try with_reducible rfl)
        simp only [Act.put, List.setIfInBounds_toArray, List.set_cons_zero, List.set_cons_succ]
        refine take_held (i := 32) (v := ?_) rfl (by kernel_rfl) (by kernel_rfl) (by kernel_rfl) (fun _ _ _ h => h) (by kernel_rfl) ?_ hS ?_
        rotate_left
        · (rintro w s1; obtain ⟨q0, q1, q2⟩ := s1; go_simp; try with_reducible rfl)
        simp only [Act.put, List.setIfInBounds_toArray, List.set_cons_zero, List.set_cons_succ]
        refine take_held (i := 33) (v := ?_) rfl (by kernel_rfl) (by kernel_rfl) (by kernel_rfl) (fun _ _ _ h => h) (by kernel_rfl) ?_ hS ?_
        rotate_left
        · (rintro w s1; obtain ⟨q0, q1, q2⟩ := s1; go_simp; try with_reducible rfl)
        simp only [Act.put, List.setIfInBounds_toArray, List.set_cons_zero, List.set_cons_succ]
        refine take_held (i := 35) (v := ?_) rfl (by kernel_rfl) (by kernel_rfl) (by kernel_rfl) (fun _ _ _ h => h) (by kernel_rfl) ?_ hS ?_
        rotate_left
        · (rintro w s1; obtain ⟨q0, q1, q2⟩ := s1; go_simp; try with_reducible rfl)
        simp only [Act.put, List.setIfInBounds_toArray, List.set_cons_zero, List.set_cons_succ]
        refine take_held (i := 38) (v := ?_) rfl (by kernel_rfl) (by kernel_rfl) (by kernel_rfl) (fun _ _ _ h => h) (by kernel_rfl) ?_ hS ?_
        rotate_left
        · (rintro w s1; obtain ⟨q0, q1, q2⟩ := s1; go_simp; try with_reducible rfl)
        simp only [Act.put, List.setIfInBounds_toArray, List.set_cons_zero, List.set_cons_succ]
        refine one_held (i := 34) rfl (by kernel_rfl) (by kernel_rfl) (fun K hK => ?_)
        have HK := hid hK
        clear hK
        go_simp
        refine (early_any HT14.out).mono ?_
        rintro e w16 ⟨rfl, q16, hw16⟩
        rw [HRV.out]
        have b16 : Below w15.heap.size w15 w16 := by rw [hw16]; exact (Calm.of_drewN w15 q16).below _
        have HT16 := hid (HT14.out.below b16)
        have HR16 := hid (HR14.out.keep (Rest.below b16))
        have N16 := hid (N14.out.below b16)
        have hS := hS.below b16
        have B16 := hid (below_tr B14.out HS14.out b16)
        have HS16 := hid (Nat.le_trans HS14.out b16.size)
        clear b16 hw16
        refine HK.out _ _ ⟨hS, ?_⟩
        clear HK K
        try simp only [Act.put, List.setIfInBounds_toArray, List.set_cons_zero, List.set_cons_succ]
        refine one_held (i := 36) rfl (by kernel_rfl) (by kernel_rfl) (fun K hK => ?_)
        have HK := hid hK
        clear hK
        go_simp
        refine (room_ref HR16.out).mono ?_
        rintro e w17 ⟨rfl, b17⟩
        rw [HRV.out]
        have HT17 := hid (HT16.out.below b17)
        have HR17 := hid (HR16.out.keep (Rest.below b17))
        have N17 := hid (N16.out.below b17)
        have hS := hS.below b17
        have B17 := hid (below_tr B16.out HS16.out b17)
        have HS17 := hid (Nat.le_trans HS16.out b17.size)
        clear b17
        refine HK.out _ _ ⟨hS, ?_⟩
        clear HK K
        try simp only [Act.put, List.setIfInBounds_toArray, List.set_cons_zero, List.set_cons_succ]
        refine take_held (i := 37) (v := ?_) rfl (by kernel_rfl) (by kernel_rfl) (by kernel_rfl) (fun _ _ _ h => h) (by kernel_rfl) ?_ hS ?_
        rotate_left
        · (rintro w s1; obtain ⟨q0, q1, q2⟩ := s1; go_simp; try with_reducible rfl)
        simp only [Act.put, List.setIfInBounds_toArray, List.set_cons_zero, List.set_cons_succ]
        refine take_held (i := 39) (v := ?_) rfl (by kernel_rfl) (by kernel_rfl) (by kernel_rfl) (fun _ _ _ h => h) (by kernel_rfl) ?_ hS ?_
        rotate_left
        · (rintro w s1; obtain ⟨q0, q1, q2⟩ := s1; go_simp; try with_reducible rfl)
        simp only [Act.put, List.setIfInBounds_toArray, List.set_cons_zero, List.set_cons_succ]
        refine take_held (i := 40) (v := ?_) rfl (by kernel_rfl) (by kernel_rfl) (by kernel_rfl) (fun _ _ _ h => h) (by kernel_rfl) ?_ hS ?_
        rotate_left
        · (rintro w s1; obtain ⟨q0, q1, q2⟩ := s1; go_simp; try with_reducible rfl)
        simp only [Act.put, List.setIfInBounds_toArray, List.set_cons_zero, List.set_cons_succ]
        refine take_held (i := 41) (v := ?_) rfl (by kernel_rfl) (by kernel_rfl) (by kernel_rfl) (fun _ _ _ h => h) (by kernel_rfl) ?_ hS ?_
        rotate_left
        · (rintro w s1; obtain ⟨q0, q1, q2⟩ := s1; go_simp; try with_reducible rfl)
        simp only [Act.put, List.setIfInBounds_toArray, List.set_cons_zero, List.set_cons_succ]
        refine wpAnyH_done (by kernel_rfl) ?_ _
        go_wp2_with fail
        go_roundw
        case rel => exact ⟨k + 1, by omega, by go_num, N17, B17, HS17⟩
        case measure => simp [intOf]; omega
      · have dl : decide (k < ds.length) = false := by simpa using hlt
        clear ht hr hg hmk
        have hS := HS.out
        go_wp2_with fail
        refine (awake_any _).mono ?_
        rintro e w2 ⟨rfl, b2⟩
        have B2 := hid (below_tr HW.out hS b2)
        clear b2
        go_wp2
        go_ret
        exact ⟨rfl, by rw [HTT.out]; exact B2.out⟩
theorem law_plays {w : World} {D : Option Addr} {ds : List Step} {cD : Nat} (h : ReadsD w D ds) (cp : Int) :
    Calls Try.prog 3 #[.int .i64 cp, .slice D ds.length cD] w fun e w' => e = .returned (.bool true) ∧ Below w.heap.size w w' := by
  by_cases hn : cp < 0 ∨ 16777216 < cp
  · exact plays_out h cp hn
  · obtain ⟨n, rfl⟩ : ∃ n : Nat, cp = n := ⟨cp.toNat, by omega⟩
    exact plays_in h n (by omega)
end Go.Proofs.Ythieemfcmehdiaa
