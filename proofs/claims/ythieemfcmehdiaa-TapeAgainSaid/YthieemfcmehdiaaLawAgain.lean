/- TapeAgain (func 6): the walk: for every input it returns true. -/
import Derived.Test.YthieemfcmehdiaaSteps
import Derived.Test.YthieemfcmehdiaaSameT
namespace Go.Proofs.Ythieemfcmehdiaa
open Go.RowKit
set_option linter.unusedSimpArgs false
set_option linter.unusedVariables false
set_option maxHeartbeats 4000000 in
set_option maxRecDepth 100000 in
theorem again_out {w : World} {D : Option Addr} {ds : List Step} {cD : Nat} (h : ReadsD w D ds) (cp m : Int) (hn : cp < 0 ∨ 16777216 < cp) :
    Calls Try.prog 6 #[.int .i64 cp, .slice D ds.length cD, .int .i64 m] w fun e w' => e = .returned (.bool true) ∧ Below w.heap.size w w' := by
  have HN := hid hn
  clear h hn
  go_enter Try.func6, Try.ntmps6
  go_wp2_with fail
  refine (new_no cp w HN.out).mono ?_
  rintro e w1 ⟨rfl, rfl⟩
  go_wp2_with fail
  refine (awake_any w).mono ?_
  rintro e w1 ⟨rfl, b1⟩
  have B1 := hid b1
  clear b1
  go_wp2
  go_ret
  exact ⟨rfl, B1.out⟩
set_option maxHeartbeats 8000000 in
set_option maxRecDepth 100000 in
theorem again_in {w : World} {D : Option Addr} {ds : List Step} {cD : Nat} (h : ReadsD w D ds) (n : Nat) (m : Int) (hn : n ≤ 16777216) :
    Calls Try.prog 6 #[.int .i64 (n : Int), .slice D ds.length cD, .int .i64 m] w fun e w' => e = .returned (.bool true) ∧ Below w.heap.size w w' := by
  have H := hid h
  have hl := h.1
  clear h
  go_enter Try.func6, Try.ntmps6
  go_wp2_with fail
  refine (new_yes n w hn).mono ?_
  rintro e w1 ⟨rfl, hw1⟩
  have h1 := tape_new w n hn
  rw [← hw1] at h1
  have b1 : Below w.heap.size w w1 := by rw [hw1]; exact below_new _ _
  have H1 := hid h1
  have B1 := hid b1
  have D1 := hid (H.out.below b1)
  have S1 : Hid (w1.heap.size = w.heap.size + 1) := hid (by rw [hw1]; simp)
  clear hw1 h1 b1
  go_wp2_with fail
  refine (few_any D1.out).mono ?_
  rintro e w2 ⟨⟨bb, rfl, hbb⟩, rfl⟩
  cases bb with
  | false =>
    go_wp2_with fail
    refine (awake_any _).mono ?_
    rintro e w3 ⟨rfl, b3⟩
    have B3 := hid (below_trans B1.out b3)
    clear b3
    go_wp2
    go_ret
    exact ⟨rfl, B3.out⟩
  | true =>
    have HF := hid (hbb rfl)
    clear hbb
    go_wp2_with fail
    have q := block_new w2 (.cells #[.int .i64 n, .slice none 0 0, .int .i64 0] 29)
    have bb := below_new w2 (.cells #[.int .i64 n, .slice none 0 0, .int .i64 0] 29)
    have h2 := H1.out.below bb
    have bT := hid (below_trans B1.out bb)
    have hTG : w.heap.size < w2.heap.size := by have := S1.out; omega
    obtain ⟨W, hW⟩ : ∃ x, w2.alloc (.cells #[.int .i64 n, .slice none 0 0, .int .i64 0] 29) = x := ⟨_, rfl⟩
    rw [hW] at q bb h2 bT ⊢
    obtain ⟨G, hG⟩ : ∃ G, w2.heap.size = G := ⟨_, rfl⟩
    rw [hG] at q hTG ⊢
    have DW := hid (fun i hi => H.out.out (i := i) bT.out hi)
    have RW := hid (H.out.below bT.out)
    obtain ⟨T, hT⟩ : ∃ T, w.heap.size = T := ⟨_, rfl⟩
    have HTT := hid hT
    rw [hT] at h2 bT DW hTG ⊢
    have B2 := hid (both_new h2 hn q)
    have HB200 := hid HF.out.2
    clear hW hG hT q bb h2 HF
    go_loopw [30] (fun i wr => ∃ k : Nat, k ≤ ds.length ∧ i = .int .i64 k ∧ Hid (Both T G n wr) ∧ Hid (Below T w wr) ∧ Hid (T ≤ wr.heap.size)) (fun i _ => ds.length - (intOf i).toNat)
    case atStart => exact ⟨0, by omega, rfl, B2, bT, hid (by have := bT.out.size; have := HTT.out; omega)⟩
    case round =>
      obtain ⟨k, hk, rfl, HB, HW, HS⟩ := hrel
      obtain ⟨wo, rfl⟩ : ∃ wo : World, wo = wr := ⟨_, rfl⟩
      obtain ⟨ys, s, A, c, A2, c2, ht, hr, hg, hmk⟩ := HB.out
      by_cases hlt : k < ds.length
      · have dl : decide (k < ds.length) = true := by simpa using hlt
        have bwo : Below w.heap.size w wo := by rw [HTT.out]; exact HW.out
        obtain ⟨ad, rfl, a0, a1, a2, a3, _⟩ := (H.out.below bwo).2 k hlt
        have hbo := H.out.out bwo k hlt
        rw [HTT.out] at hbo
        have hir := in_round ht hr hg hbo (HB200.out k hlt) hmk
        obtain ⟨x, hx⟩ : ∃ x, ds[k] = x := ⟨_, rfl⟩
        rw [hx] at a0 a1 a2 a3 hir
        have hki : (k : Int) < (ds.length : Int) := by omega
        have hk0 : (0 : Int) ≤ (k : Int) := by omega
        have HIR := hid hir
        clear hx hbo ht hr hg bwo hir hmk
        go_upto_region 8 with (fail)
        obtain ⟨W5, hW5⟩ : ∃ W5, wo.alloc (.cells #[.int .i64 x.verb, .int .i64 x.n, .int .i64 x.m, .slice x.B x.l.length x.k] 32) = W5 := ⟨_, rfl⟩
        have HW5 := hid hW5
        rw [hW5] at HIR ⊢
        obtain ⟨D5, hD5⟩ : ∃ D5, wo.heap.size = D5 := ⟨_, rfl⟩
        have HD5 := hid hD5
        rw [hD5] at HIR ⊢
        have r0 := HIR.out.r0
        have r1 := HIR.out.r1
        have r2 := HIR.out.r2
        have d0 := HIR.out.d0
        have d1 := HIR.out.d1
        have d2 := HIR.out.d2
        have d3 := HIR.out.d3
        clear hW5 hD5 a0 a1 a2 a3
        go_wp2_with fail
        refine HIR.out.does.mono ?_
        rintro e w6 ⟨ys', s', hd⟩
        obtain ⟨A3, c3, rfl, hbx, t6⟩ := box_of HIR.out hd (Nat.ne_of_lt hTG)
        have f6 := hbx.cells.1
        have g60 := hbx.cells.2.1
        have g61 := hbx.cells.2.2.1
        have g62 := hbx.cells.2.2.2
        have b7 := fun x y z => below_next _ HW.out HS.out (by rw [HW5.out]; exact t6) (Nat.le_of_lt hTG) x y z
        have n7 := hbx.next (Nat.ne_of_lt hTG)
        obtain ⟨v60, g60⟩ := g60
        obtain ⟨v61, g61⟩ := g61
        obtain ⟨v62, g62⟩ := g62
        have f60 := f6 0
        have f61 := f6 1
        have f62 := f6 2
        have hs7 : T ≤ (((w6.setCell ⟨G, 0, none⟩ (.int .i64 n)).setCell ⟨G, 1, none⟩ (.slice A3 ys'.length c3)).setCell ⟨G, 2, none⟩ (.int .i64 s')).heap.size := by
          have h1 := HIR.out.t.lt
          have h2 := t6.size
          simp
          omega
        have B7 := hid b7
        have N7 := hid n7
        have HS7 := hid hs7
        clear b7 n7 hs7 hbx hd t6 f6
        go_wp2_with fail
        go_roundw
        case rel => exact ⟨k + 1, by omega, by go_num, N7, hid (B7.out _ _ _), HS7⟩
        case measure => simp [intOf]; omega
      · have dl : decide (k < ds.length) = false := by simpa using hlt
        have HT := hid ht
        have HM := hid hmk
        have hy := ht.len
        have hS := HS.out
        clear ht hr hg hmk H HB200 H1 B1 D1 S1 DW RW B2 HB HS bT
        by_cases hm0 : m < 0
        · have dm0 : decide (m < 0) = true := by simp; omega
          go_wp2_with fail
          refine (awake_any _).mono ?_
          rintro e w2 ⟨rfl, b2⟩
          have B2 := hid (below_tr HW.out hS b2)
          clear b2
          go_wp2
          go_ret
          exact ⟨rfl, by rw [HTT.out]; exact B2.out⟩
        · have dm0 : decide (m < 0) = false := by simp; omega
          by_cases hmy : (ys.length : Int) < m
          · have dmy : decide ((ys.length : Int) < m) = true := by simp; omega
            go_wp2_with fail
            refine (len_any HT.out).mono ?_
            rintro e w2 ⟨rfl, rfl⟩
            go_wp2_with fail
            refine (awake_any _).mono ?_
            rintro e w3 ⟨rfl, b2⟩
            have B2 := hid (below_tr HW.out hS b2)
            clear b2
            go_wp2
            go_ret
            exact ⟨rfl, by rw [HTT.out]; exact B2.out⟩
          · obtain ⟨p, rfl⟩ : ∃ p : Nat, m = p := ⟨m.toNat, by omega⟩
            obtain ⟨r, hr⟩ : ∃ r, ys.length = p + r := ⟨ys.length - p, by omega⟩
            have dmy : decide ((ys.length : Int) < (p : Int)) = false := by simp; omega
            have dmz : decide (ys.length < p) = false := by simp; omega
            have HR := hid hr
            have hp : p ≤ ys.length := by omega
            clear hm0 hmy hr
            go_wp2_with fail
            refine (len_any HT.out).mono ?_
            rintro e w2 ⟨rfl, rfl⟩
            go_wp2_with fail
            refine (items_any HT.out).mono ?_
            rintro e w3 ⟨v3, rfl, hl3, b3⟩
            obtain ⟨A3, c3, rfl, _, hn3, hc3⟩ := hl3.reads (by omega)
            have HL3 := hid hl3
            have HT3 := hid (HT.out.below b3)
            have B3 := hid (below_tr HW.out hS b3)
            have hTs := HT.out.lt
            have s3 := b3.size
            clear hl3 b3
            go_wp2_with fail
            refine (room_any HT3.out).mono ?_
            rintro e w4 ⟨rfl, q, hw4⟩
            obtain ⟨rv, hrv⟩ : ∃ rv : Int, (n : Int) - used ys = rv := ⟨_, rfl⟩
            have HRV := hid hrv
            rw [hrv]
            have b4 : Below w3.heap.size w3 w4 := by rw [hw4]; exact (Calm.of_drewN w3 q).below _
            have HL4 := hid (HL3.out.below b4)
            have HT4 := hid (HT3.out.below b4)
            have B4 := hid (below_tr B3.out (by omega) b4)
            have s4 := b4.size
            clear hrv hw4 b4
            go_wp2_with fail
            refine (cut_any HT4.out p hp).mono ?_
            rintro e w5 ⟨rfl, ht5, t5⟩
            obtain ⟨sv, hsv⟩ : ∃ sv, min s p = sv := ⟨_, rfl⟩
            rw [hsv] at ht5
            have hsp : sv ≤ p := by omega
            have HT5 := hid ht5
            have HL5 := hid (HL4.out.touch t5 HT4.out hTs)
            have B5 := hid (below_touch B4.out (by omega) t5)
            have s5 := t5.size
            have hc3' : p ≤ c3 := by omega
            clear ht5 t5 hsv
            have HN3 := hid hn3
            clear hn3
            go_upto_region 14 with (fail)
            go_cut [60, 61, 62] (fun sl ln i wx => ∃ A6 c6, sl = .slice A6 r c6 ∧ ln = .int .i64 r ∧ i = .int .i64 0 ∧ Hid (Suf A3 p ys.length A6) ∧ wx = w5)
            case first =>
              cases A3 with
              | none =>
                have HNL := hid (show ¬ p < ys.length by have := HN3.out rfl; omega)
                go_wp2_with fail
                go_meet
                have hr := HR.out
                have e : ys.length - p = r := by omega
                exact ⟨none, c3 - p, by rw [e], by rw [e], rfl, hid (fun h => absurd h HNL.out), rfl⟩
              | some ad =>
                by_cases hpc : p = c3
                · subst hpc
                  go_wp2_with fail
                  go_meet
                  have hr := HR.out
                  have e : r = 0 := by omega
                  exact ⟨some ad, 0, by rw [e], by rw [e]; rfl, rfl, hid (fun h => by omega), rfl⟩
                · go_wp2_with fail
                  go_meet
                  have hr := HR.out
                  have e : ys.length - p = r := by omega
                  exact ⟨_, _, by rw [e], by rw [e], rfl, hid (fun h => ⟨ad, rfl, rfl⟩), rfl⟩
            case rest =>
              obtain ⟨A6, c6, rfl, rfl, rfl, HSUF, rfl⟩ := hcut
              clear dm0 dmy dmz
              go_wp2_with fail
              go_loopw [62] (fun i wr => ∃ j : Nat, j ≤ r ∧ i = .int .i64 j ∧ Hid (∃ A c, IsTape wr T n (ys.take (p + j)) sv A c) ∧ Hid (ListIs wr 44 w2.heap.size (.slice A3 ys.length c3) ys) ∧ Hid (Below T w wr) ∧ Hid (T ≤ wr.heap.size)) (fun i _ => r - (intOf i).toNat)
              case atStart => exact ⟨0, by omega, rfl, hid ⟨_, _, HT5.out⟩, HL5, B5, hid (by omega)⟩
              case round =>
                obtain ⟨j, hj, rfl, HTj, HLj, HBj, HSj⟩ := hrel
                obtain ⟨wj, rfl⟩ : ∃ wo : World, wo = wr := ⟨_, rfl⟩
                obtain ⟨Aj, cj, htj⟩ := HTj.out
                have HTJ := hid htj
                clear htj HTj
                by_cases hjr : j < r
                · have dj : decide (j < r) = true := by simpa using hjr
                  have hpj : p + j < ys.length := by have := HR.out; omega
                  obtain ⟨ad, rfl, rfl⟩ := HSUF.out (by omega)
                  obtain ⟨ad', ead, e0, B, kB, e1, hrd, hkn, hkl⟩ := HLj.out.at (p + j) hpj
                  cases ead
                  have hun := used_next hpj
                  have htk := List.take_succ_eq_append_getElem hpj
                  have hmm := HM.out _ (List.getElem_mem hpj)
                  obtain ⟨x, hx⟩ : ∃ x, ys[p + j] = x := ⟨_, rfl⟩
                  rw [hx] at e0 e1 hrd hkl hun htk hmm
                  have ea : (ad.add (p * 2)).add (j * 2) = ad.add ((p + j) * 2) := by rw [Addr.add_add]; congr 1; omega
                  rw [← ea] at e0 e1
                  have hf := HTJ.out.fits
                  have hfy : used ys ≤ n := HT4.out.fits
                  have HFIT := hid (show used (ys.take (p + j)) + (8 + x.2.length) ≤ n by unfold cost at hun; omega)
                  have HMM := hid hmm
                  have HTK := hid htk
                  have hjz : (0 : Int) ≤ (j : Int) := by omega
                  have hji : (j : Int) < (r : Int) := by omega
                  have hxl : x.2.length ≤ 9223372036854775807 := by have := HT4.out.small; unfold cost at hun; omega
                  have HRD := hid hrd
                  have HKN := hid hkn
                  have HKL := hid hkl
                  clear hx ea hf hfy hun htk hmm hrd hkn hkl
                  obtain ⟨xb, xl⟩ := x
                  dsimp only at e0 e1 HFIT HMM HTK hxl HRD HKN HKL
                  clear HSUF HL3 HL4 HN3 HL5
                  go_upto_region 17 with (fail)
                  obtain ⟨W6, hW6⟩ : ∃ W6, wj.alloc (.cells #[.bool xb, .slice B xl.length kB] 44) = W6 := ⟨_, rfl⟩
                  have b6 : Below wj.heap.size wj W6 := by rw [← hW6]; exact below_new _ _
                  have d0 : W6.cell? ⟨wj.heap.size, 0, none⟩ = some (.bool xb) := by rw [← hW6]; exact (cell_new wj _ 44 (0, 0) 0).trans rfl
                  have d1 : W6.cell? ⟨wj.heap.size, 1, none⟩ = some (.slice B xl.length kB) := by rw [← hW6]; exact (cell_new wj _ 44 (0, 0) 1).trans rfl
                  rw [hW6]
                  have HT6 := hid (HTJ.out.below b6)
                  have HL6 := hid (HLj.out.below b6)
                  have HR6 := hid (HRD.out.below b6)
                  have B6 := hid (below_tr HBj.out HSj.out b6)
                  have HS6 := hid (Nat.le_trans HSj.out b6.size)
                  obtain ⟨H6, hH6⟩ : ∃ H6, wj.heap.size = H6 := ⟨_, rfl⟩
                  rw [hH6] at d0 d1 ⊢
                  clear hW6 hH6 b6 e0 e1
                  cases xb with
                  | true =>
                    obtain rfl := HMM.out rfl
                    go_wp2_with fail
                    refine (mark_yes HT6.out HFIT.out).mono ?_
                    rintro e w7 ⟨rfl, A7, c7, h7, t7⟩
                    have HT7 := hid h7
                    have HL7 := hid (HL6.out.touch t7 HT6.out hTs)
                    have B7 := hid (below_touch B6.out HS6.out t7)
                    have HS7 := hid (Nat.le_trans HS6.out t7.size)
                    clear h7 t7
                    go_wp2_with fail
                    go_roundw
                    case rel => exact ⟨j + 1, by omega, by go_num, hid ⟨_, _, by rw [← Nat.add_assoc, HTK.out]; exact HT7.out⟩, HL7, B7, HS7⟩
                    case measure => simp [intOf]; omega
                  | false =>
                    go_wp2_with fail
                    refine (append_yes HT6.out B kB xl HR6.out HKN.out HFIT.out).mono ?_
                    rintro e w7 ⟨rfl, A7, c7, h7, t7⟩
                    have HT7 := hid h7
                    have HL7 := hid (HL6.out.touch t7 HT6.out hTs)
                    have B7 := hid (below_touch B6.out HS6.out t7)
                    have HS7 := hid (Nat.le_trans HS6.out t7.size)
                    clear h7 t7
                    go_wp2_with fail
                    go_roundw
                    case rel => exact ⟨j + 1, by omega, by go_num, hid ⟨_, _, by rw [← Nat.add_assoc, HTK.out]; exact HT7.out⟩, HL7, B7, HS7⟩
                    case measure => simp [intOf]; omega
                · have dj : decide (j < r) = false := by simpa using hjr
                  have htf : IsTape wj T n ys sv Aj cj := by
                    have h := HTJ.out
                    rw [List.take_of_length_le (by have := HR.out; omega)] at h
                    exact h
                  have HTF := hid htf
                  clear HTJ htf HSUF HL3 HL4 HN3 HL5
                  go_wp2_with fail
                  refine (items_any HTF.out).mono ?_
                  rintro e w7 ⟨v7, rfl, hl7, b7⟩
                  obtain ⟨A7, c7, rfl, hr7, _⟩ := hl7.reads (by omega)
                  obtain ⟨_, _, he, hr3, _⟩ := (HLj.out.below b7).reads (by omega)
                  cases he
                  have R7 := hid hr7
                  have R3 := hid hr3
                  have B7 := hid b7
                  clear hl7 hr7 hr3 b7
                  go_wp2_with fail
                  refine (same_tape c7 c3 R7.out R3.out).mono ?_
                  rintro e w8 ⟨rfl, b8⟩
                  have HT8 := hid (HTF.out.below (below_trans B7.out b8))
                  have B8 := hid (below_tr HBj.out HSj.out (below_trans B7.out b8))
                  have S8 : T ≤ w8.heap.size := Nat.le_trans HSj.out (Nat.le_trans B7.out.size b8.size)
                  clear b8
                  go_wp2_with fail
                  refine (room_any HT8.out).mono ?_
                  rintro e w9 ⟨rfl, q9, hw9⟩
                  rw [HRV.out]
                  have b9 : Below w8.heap.size w8 w9 := by rw [hw9]; exact (Calm.of_drewN w8 q9).below _
                  have HT9 := hid (HT8.out.below b9)
                  have B9 := hid (below_tr B8.out S8 b9)
                  have S9 : T ≤ w9.heap.size := Nat.le_trans S8 b9.size
                  clear hw9 b9
                  have dsp : decide ((sv : Int) ≤ (p : Int)) = true := by simp; omega
                  go_wp2_with fail
                  refine (safe_any HT9.out).mono ?_
                  rintro e w10 ⟨rfl, rfl⟩
                  go_wp2_with fail
                  refine (awake_any _).mono ?_
                  rintro e w11 ⟨rfl, b11⟩
                  have B11 := hid (below_tr B9.out S9 b11)
                  clear b11
                  go_wp2
                  go_ret
                  exact ⟨rfl, by rw [HTT.out]; exact B11.out⟩
theorem law_again {w : World} {D : Option Addr} {ds : List Step} {cD : Nat} (h : ReadsD w D ds) (cp m : Int) :
    Calls Try.prog 6 #[.int .i64 cp, .slice D ds.length cD, .int .i64 m] w fun e w' => e = .returned (.bool true) ∧ Below w.heap.size w w' := by
  by_cases hn : cp < 0 ∨ 16777216 < cp
  · exact again_out h cp m hn
  · obtain ⟨n, rfl⟩ : ∃ n : Nat, cp = n := ⟨cp.toNat, by omega⟩
    exact again_in h n m (by omega)
end Go.Proofs.Ythieemfcmehdiaa
