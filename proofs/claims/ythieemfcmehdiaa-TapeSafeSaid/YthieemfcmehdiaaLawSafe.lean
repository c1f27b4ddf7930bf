/- TapeSafe (func 7): the walk: for every capacity, steps, keep and torn it returns true. -/
import Derived.Test.YthieemfcmehdiaaSteps
import Derived.Test.YthieemfcmehdiaaSameT
namespace Go.Proofs.Ythieemfcmehdiaa
open Go.RowKit
set_option linter.unusedSimpArgs false
set_option linter.unusedVariables false
set_option maxHeartbeats 4000000 in
set_option maxRecDepth 100000 in
theorem safe_out {w : World} {D : Option Addr} {ds : List Step} {cD : Nat} (h : ReadsD w D ds) (cp keep torn : Int) (hn : cp < 0 ∨ 16777216 < cp) :
    Calls Try.prog 7 #[.int .i64 cp, .slice D ds.length cD, .int .i64 keep, .int .i64 torn] w fun e w' => e = .returned (.bool true) ∧ Below w.heap.size w w' := by
  have HN := hid hn
  clear h hn
  go_enter Try.func7, Try.ntmps7
  go_wp2_with fail
  refine (new_no cp w HN.out).mono ?_
  rintro e w1 ⟨rfl, rfl⟩
  go_wp2_with fail
  refine (awake_any w).mono ?_
  rintro e w1 ⟨rfl, b1⟩
  have B1 := hid b1
  clear b1
  go_wp2
  go_ret
  exact ⟨rfl, B1.out⟩
set_option maxHeartbeats 8000000 in
set_option maxRecDepth 100000 in
theorem safe_in {w : World} {D : Option Addr} {ds : List Step} {cD : Nat} (h : ReadsD w D ds) (n : Nat) (keep torn : Int) (hn : n ≤ 16777216) :
    Calls Try.prog 7 #[.int .i64 (n : Int), .slice D ds.length cD, .int .i64 keep, .int .i64 torn] w fun e w' => e = .returned (.bool true) ∧ Below w.heap.size w w' := by
  have H := hid h
  have hl := h.1
  clear h
  go_enter Try.func7, Try.ntmps7
  go_wp2_with fail
  refine (new_yes n w hn).mono ?_
  rintro e w1 ⟨rfl, hw1⟩
  have h1 := tape_new w n hn
  rw [← hw1] at h1
  have b1 : Below w.heap.size w w1 := by rw [hw1]; exact below_new _ _
  have H1 := hid h1
  have B1 := hid b1
  have D1 := hid (H.out.below b1)
  have S1 : Hid (w1.heap.size = w.heap.size + 1) := hid (by rw [hw1]; simp)
  clear hw1 h1 b1
  go_wp2_with fail
  refine (few_any D1.out).mono ?_
  rintro e w2 ⟨⟨bb, rfl, hbb⟩, rfl⟩
  cases bb with
  | false =>
    go_wp2_with fail
    refine (awake_any _).mono ?_
    rintro e w3 ⟨rfl, b3⟩
    have B3 := hid (below_trans B1.out b3)
    clear b3
    go_wp2
    go_ret
    exact ⟨rfl, B3.out⟩
  | true =>
    have HF := hid (hbb rfl)
    clear hbb
    go_wp2_with fail
    have q := block_new w2 (.cells #[.int .i64 n, .slice none 0 0, .int .i64 0] 29)
    have bb := below_new w2 (.cells #[.int .i64 n, .slice none 0 0, .int .i64 0] 29)
    have h2 := H1.out.below bb
    have bT := hid (below_trans B1.out bb)
    have hTG : w.heap.size < w2.heap.size := by have := S1.out; omega
    obtain ⟨W, hW⟩ : ∃ x, w2.alloc (.cells #[.int .i64 n, .slice none 0 0, .int .i64 0] 29) = x := ⟨_, rfl⟩
    rw [hW] at q bb h2 bT ⊢
    obtain ⟨G, hG⟩ : ∃ G, w2.heap.size = G := ⟨_, rfl⟩
    rw [hG] at q hTG ⊢
    have DW := hid (fun i hi => H.out.out (i := i) bT.out hi)
    have RW := hid (H.out.below bT.out)
    obtain ⟨T, hT⟩ : ∃ T, w.heap.size = T := ⟨_, rfl⟩
    have HTT := hid hT
    rw [hT] at h2 bT DW hTG ⊢
    have B2 := hid (both_new h2 hn q)
    have HB200 := hid HF.out.2
    clear hW hG hT q bb h2 HF
    go_loopw [28] (fun i wr => ∃ k : Nat, k ≤ ds.length ∧ i = .int .i64 k ∧ Hid (Both T G n wr) ∧ Hid (Below T w wr) ∧ Hid (T ≤ wr.heap.size)) (fun i _ => ds.length - (intOf i).toNat)
    case atStart => exact ⟨0, by omega, rfl, B2, bT, hid (by have := bT.out.size; have := HTT.out; omega)⟩
    case round =>
      obtain ⟨k, hk, rfl, HB, HW, HS⟩ := hrel
      obtain ⟨wo, rfl⟩ : ∃ wo : World, wo = wr := ⟨_, rfl⟩
      obtain ⟨ys, s, A, c, A2, c2, ht, hr, hg⟩ := HB.out
      by_cases hlt : k < ds.length
      · have dl : decide (k < ds.length) = true := by simpa using hlt
        have bwo : Below w.heap.size w wo := by rw [HTT.out]; exact HW.out
        obtain ⟨ad, rfl, a0, a1, a2, a3, _⟩ := (H.out.below bwo).2 k hlt
        have hbo := H.out.out bwo k hlt
        rw [HTT.out] at hbo
        have hir := in_round ht hr hg hbo (HB200.out k hlt)
        obtain ⟨x, hx⟩ : ∃ x, ds[k] = x := ⟨_, rfl⟩
        rw [hx] at a0 a1 a2 a3 hir
        have hki : (k : Int) < (ds.length : Int) := by omega
        have hk0 : (0 : Int) ≤ (k : Int) := by omega
        have HIR := hid hir
        clear hx hbo ht hr hg bwo hir
        go_upto_region 8 with (fail)
        obtain ⟨W5, hW5⟩ : ∃ W5, wo.alloc (.cells #[.int .i64 x.verb, .int .i64 x.n, .int .i64 x.m, .slice x.B x.l.length x.k] 32) = W5 := ⟨_, rfl⟩
        have HW5 := hid hW5
        rw [hW5] at HIR ⊢
        obtain ⟨D5, hD5⟩ : ∃ D5, wo.heap.size = D5 := ⟨_, rfl⟩
        have HD5 := hid hD5
        rw [hD5] at HIR ⊢
        have r0 := HIR.out.r0
        have r1 := HIR.out.r1
        have r2 := HIR.out.r2
        have d0 := HIR.out.d0
        have d1 := HIR.out.d1
        have d2 := HIR.out.d2
        have d3 := HIR.out.d3
        clear hW5 hD5 a0 a1 a2 a3
        go_wp2_with fail
        refine HIR.out.does.mono ?_
        rintro e w6 ⟨ys', s', hd⟩
        obtain ⟨A3, c3, rfl, hbx, t6⟩ := box_of HIR.out hd (Nat.ne_of_lt hTG)
        have f6 := hbx.cells.1
        have g60 := hbx.cells.2.1
        have g61 := hbx.cells.2.2.1
        have g62 := hbx.cells.2.2.2
        have b7 := fun x y z => below_next _ HW.out HS.out (by rw [HW5.out]; exact t6) (Nat.le_of_lt hTG) x y z
        have n7 := hbx.next (Nat.ne_of_lt hTG)
        obtain ⟨v60, g60⟩ := g60
        obtain ⟨v61, g61⟩ := g61
        obtain ⟨v62, g62⟩ := g62
        have f60 := f6 0
        have f61 := f6 1
        have f62 := f6 2
        have hs7 : T ≤ (((w6.setCell ⟨G, 0, none⟩ (.int .i64 n)).setCell ⟨G, 1, none⟩ (.slice A3 ys'.length c3)).setCell ⟨G, 2, none⟩ (.int .i64 s')).heap.size := by
          have h1 := HIR.out.t.lt
          have h2 := t6.size
          simp
          omega
        have B7 := hid b7
        have N7 := hid n7
        have HS7 := hid hs7
        clear b7 n7 hs7 hbx hd t6 f6
        go_wp2_with fail
        go_roundw
        case rel => exact ⟨k + 1, by omega, by go_num, N7, hid (B7.out _ _ _), HS7⟩
        case measure => simp [intOf]; omega
      · have dl : decide (k < ds.length) = false := by simpa using hlt
        have HT := hid ht
        have HG := hid hg
        have hy := ht.len
        have hS := HS.out
        clear ht hr hg H HB200 H1 B1 D1 S1 DW RW B2 HB HS bT
        go_wp2_with fail
        refine (sync_any HT.out).mono ?_
        rintro e w2 ⟨⟨v2, rfl⟩, hw2⟩
        have t2 : Touch [T] wo w2 := by rw [hw2]; exact Touch.setCell wo ⟨T, 2, none⟩ (.int .i64 ys.length)
        have ht2 : IsTape w2 T n ys ys.length A c := by rw [hw2]; exact HT.out.synced
        have T2 := hid t2
        have HT2 := hid ht2
        clear hw2 t2 ht2
        go_wp2_with fail
        refine (items_any HT2.out).mono ?_
        rintro e w3 ⟨v3, rfl, hl3, b3⟩
        obtain ⟨A3, c3, rfl, _⟩ := hl3.reads (by omega)
        have HL3 := hid hl3
        have HT3 := hid (HT2.out.below b3)
        have B3 := hid b3
        clear hl3 b3
        go_wp2_with fail
        go_loopw [44] (fun i wr => ∃ j : Nat, j ≤ 3 ∧ i = .int .i64 j ∧ Hid (∃ A c, IsTape wr T n ys ys.length A c) ∧ Hid (Touch [T] w3 wr)) (fun i _ => 3 - (intOf i).toNat)
        case atStart => exact ⟨0, by omega, rfl, hid ⟨_, _, HT3.out⟩, hid (Touch.refl _ _)⟩
        case round =>
          obtain ⟨j, hj, rfl, HTj, HUj⟩ := hrel
          obtain ⟨w4, rfl⟩ : ∃ wo : World, wo = wr := ⟨_, rfl⟩
          obtain ⟨A4, c4, ht4⟩ := HTj.out
          have HT4 := hid ht4
          clear ht4
          by_cases hj3 : j < 3
          · have dj : decide ((j : Int) < 3) = true := by simp; omega
            go_wp2_with fail
            refine (crash_safe HT4.out keep torn).mono ?_
            rintro e w5 ⟨⟨v5, rfl⟩, q5, t5⟩
            have Q5 := hid q5
            have T5 := hid (HUj.out.trans t5 (fun _ h => .inl h))
            clear q5 t5
            go_wp2_with fail
            go_roundw
            case rel => exact ⟨j + 1, by omega, by go_num, Q5, T5⟩
            case measure => simp [intOf]; omega
          · have dj : decide ((j : Int) < 3) = false := by simp; omega
            have hl4 := HL3.out.touch HUj.out HT3.out (Nat.lt_of_lt_of_le HT.out.lt T2.out.size)
            have HL4 := hid hl4
            clear hl4
            go_wp2_with fail
            refine (items_any HT4.out).mono ?_
            rintro e w5 ⟨v5, rfl, hl5, b5⟩
            obtain ⟨A5, c5, rfl, hr5, _⟩ := hl5.reads (by omega)
            obtain ⟨_, _, he, hr3, _⟩ := (HL4.out.below b5).reads (by omega)
            cases he
            have R5 := hid hr5
            have R3 := hid hr3
            have B5 := hid b5
            clear hl5 hr5 hr3 b5
            go_wp2_with fail
            refine (same_tape c5 c3 R5.out R3.out).mono ?_
            rintro e w6 ⟨rfl, b6⟩
            have B6 := hid (below_trans B5.out b6)
            have HT6 := hid (HT4.out.below B6.out)
            clear b6
            go_wp2_with fail
            refine (safe_any HT6.out).mono ?_
            rintro e w7 ⟨rfl, rfl⟩
            have hg7 : w7.cell? ⟨G, 1, none⟩ = some (.slice A2 ys.length c2) := by
              have hGl := (Array.getElem?_eq_some_iff.1 HG.out).1
              have e1 := T2.out.block G hGl (by simp; omega)
              have e2 := B3.out.block G (Nat.lt_of_lt_of_le hGl T2.out.size)
              have e3 := HUj.out.block G (Nat.lt_of_lt_of_le (Nat.lt_of_lt_of_le hGl T2.out.size) B3.out.size) (by simp; omega)
              have e4 := B6.out.block G (Nat.lt_of_lt_of_le (Nat.lt_of_lt_of_le (Nat.lt_of_lt_of_le hGl T2.out.size) B3.out.size) HUj.out.size)
              exact (cell_of_row w7 G 1 _ _ _ (e4.trans (e3.trans (e2.trans (e1.trans HG.out))))).trans rfl
            have s2 := T2.out.size
            have s3 := B3.out.size
            have s4 := HUj.out.size
            have bz := hid (below_tr (below_touch (below_tr (below_touch HW.out hS T2.out) (by omega) B3.out) (by omega) HUj.out) (by omega) B6.out)
            go_wp2_with fail
            refine (awake_any _).mono ?_
            rintro e w8 ⟨rfl, b8⟩
            have B8 := hid (below_tr bz.out (by have := B6.out.size; omega) b8)
            clear b8
            go_wp2
            go_ret
            exact ⟨rfl, by rw [HTT.out]; exact B8.out⟩
theorem law_safe {w : World} {D : Option Addr} {ds : List Step} {cD : Nat} (h : ReadsD w D ds) (cp keep torn : Int) :
    Calls Try.prog 7 #[.int .i64 cp, .slice D ds.length cD, .int .i64 keep, .int .i64 torn] w fun e w' => e = .returned (.bool true) ∧ Below w.heap.size w w' := by
  by_cases hn : cp < 0 ∨ 16777216 < cp
  · exact safe_out h cp keep torn hn
  · obtain ⟨n, rfl⟩ : ∃ n : Nat, cp = n := ⟨cp.toNat, by omega⟩
    exact safe_in h n keep torn (by omega)
end Go.Proofs.Ythieemfcmehdiaa
