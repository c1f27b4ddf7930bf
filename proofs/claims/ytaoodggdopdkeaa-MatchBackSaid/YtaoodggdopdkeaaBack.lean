/- The walk of MatchBack. -/
import Derived.Test.YtaoodggdopdkeaaLaws
namespace Go.Proofs.Ytaoodggdopdkeaa
open Go.RowKit

set_option maxHeartbeats 1000000 in
set_option maxRecDepth 100000 in
theorem back_no (A : Option Addr) (n c : Nat) (win : Int) (w : World) (hn : n ≤ 9223372036854775807) (h : 3000 < n ∨ win < 1 ∨ 32768 < win) :
    Calls Try.prog 7 #[.slice A n c, .int .i64 win] w fun e w' => e = .returned (.bool true) ∧ Below w.heap.size w w' := by
  by_cases h1 : 3000 < n
  · have t1 : decide ((3000 : Int) < n) = true := by simp; omega
    clear h
    go_enter Try.func7, Try.ntmps7
    go_wp2_with fail
    refine (awake_any w).mono ?_
    rintro e w1 ⟨rfl, b1⟩
    have B1 := hid b1
    clear b1
    go_wp2
    go_ret
    exact ⟨rfl, B1.out⟩
  · have t1 : decide ((3000 : Int) < n) = false := by simp; omega
    by_cases h2 : win < 1
    · clear h
      go_enter Try.func7, Try.ntmps7
      go_wp2_with fail
      refine (awake_any w).mono ?_
      rintro e w1 ⟨rfl, b1⟩
      have B1 := hid b1
      clear b1
      go_wp2
      go_ret
      exact ⟨rfl, B1.out⟩
    · have h3 : 32768 < win := by omega
      clear h
      go_enter Try.func7, Try.ntmps7
      go_wp2_with fail
      refine (awake_any w).mono ?_
      rintro e w1 ⟨rfl, b1⟩
      have B1 := hid b1
      clear b1
      go_wp2
      go_ret
      exact ⟨rfl, B1.out⟩
set_option maxHeartbeats 2000000 in
set_option maxRecDepth 100000 in
theorem back_yes (A : Option Addr) (c win : Nat) (b : List UInt8) (w : World) (hb : Reads w A (bytesV b)) (hA : A = none → c = 0) (hc : b.length ≤ c) (hn : b.length ≤ 3000) (h1 : 1 ≤ win) (h2 : win ≤ 32768) :
    Calls Try.prog 7 #[.slice A b.length c, .int .i64 win] w fun e w' => e = .returned (.bool true) ∧ Below w.heap.size w w' := by
  have HB := hid hb
  have HA := hid hA
  have t1 : decide ((3000 : Int) < (b.length : Int)) = false := by simp; omega
  have t2 : decide ((win : Int) < 1) = false := by simp; omega
  have t3 : decide ((32768 : Int) < (win : Int)) = false := by simp; omega
  obtain ⟨p1, p2, p3⟩ := back_plain b win (by omega) h2
  have P1 := hid p1
  have P2 := hid p2
  have P3 := hid p3
  have hlen := allToks_len b win
  have hal : (allToks b win).length ≤ 1000000 := by omega
  clear hb hA p1 p2 p3 hlen
  go_enter Try.func7, Try.ntmps7
  go_wp2_with fail
  refine (parse_reads A c win b w HB.out HA.out hc (by omega) h1 h2).mono ?_
  rintro e w1 ⟨A1, c1, rfl, hr, hz, hcl, b1⟩
  obtain ⟨ts, hts⟩ : ∃ ts, allToks b win = ts := ⟨_, rfl⟩
  rw [hts] at P1 P2 P3 hr hcl hal ⊢
  have HR := hid hr
  have B1 := hid b1
  clear hr b1 hz hts
  go_wp2
  go_loopw [27] (fun i wr => ∃ k : Nat, k ≤ ts.length ∧ i = .int .i64 k ∧ Hid (Below w1.heap.size w1 wr)) (fun i _ => ts.length - (intOf i).toNat)
  case atStart => exact ⟨0, Nat.zero_le _, rfl, hid (Below.refl _ _)⟩
  case round =>
    obtain ⟨k, hk, rfl, HK⟩ := hrel
    by_cases hlt : k < ts.length
    · have dl : decide (k < ts.length) = true := by simpa using hlt
      obtain ⟨ad, rfl, c0, c1', c2, hwf⟩ := (HR.out.below HK.out).2 k hlt
      obtain ⟨q1, q2⟩ := P3.out _ (List.getElem_mem hlt)
      obtain ⟨t, ht⟩ : ∃ t, ts[k] = t := ⟨_, rfl⟩
      rw [ht] at c0 c1' c2 q1 q2
      clear ht hwf
      go_wp2_with fail
      refine (right_any t _).mono ?_
      rintro e w2 ⟨rfl, b2⟩
      rw [q1]
      have n2 := cell_below b2 ((cell_new wr #[.int .u8 t.lit.toNat, .int .i64 t.len, .int .i64 t.back] 33 (0, 0) 2).trans rfl)
      have d1 : decide ((win : Int) < t.back) = false := by simp; omega
      have HK2 := hid (below_trans HK.out (below_trans (below_new _ _) b2))
      clear b2 q1
      go_wp2
      go_roundw
      case rel => exact ⟨k + 1, by omega, by go_num, HK2⟩
      case measure => simp [intOf]; omega
    · have dl : decide (k < ts.length) = false := by simpa using hlt
      have HR2 := hid (HR.out.below HK.out)
      go_wp2_with fail
      refine (expand_any A1 c1 ts wr HR2.out).mono ?_
      rintro e w2 ⟨A2, c2, rfl, hr2, hz2, b2⟩
      rw [P1.out] at hr2 ⊢
      simp only at hr2 ⊢
      have HX := hid (conv_bytes (c := c2) hr2)
      have HY := hid (conv_bytes (c := c) ((HB.out.below B1.out).below (below_trans HK.out b2)))
      have x1 := HX.out
      have x2 := HY.out
      have HR3 := hid (HR2.out.below b2)
      have B2 := hid b2
      clear hr2 b2 hz2
      go_wp2_with fail
      refine (size_any A1 c1 ts w2 HR3.out (by omega)).mono ?_
      rintro e w3 ⟨rfl, b3⟩
      rw [P2.out]
      have B3 := hid b3
      clear b3 x1 x2
      go_wp2_with fail
      refine (awake_any w3).mono ?_
      rintro e w4 ⟨rfl, b4⟩
      have B4 := hid b4
      clear b4
      go_wp2
      go_ret
      exact ⟨rfl, below_trans (below_trans (below_trans (below_trans B1.out HK.out) B2.out) B3.out) B4.out⟩
theorem back_any (A : Option Addr) (c : Nat) (win : Int) (b : List UInt8) (w : World) (hb : Reads w A (bytesV b)) (hA : A = none → c = 0) (hc : b.length ≤ c) :
    Calls Try.prog 7 #[.slice A b.length c, .int .i64 win] w fun e w' => e = .returned (.bool true) ∧ Below w.heap.size w w' := by
  by_cases h : b.length ≤ 3000 ∧ 1 ≤ win ∧ win ≤ 32768
  · obtain ⟨h1, h2, h3⟩ := h
    obtain ⟨n, rfl⟩ := Int.eq_ofNat_of_zero_le (show 0 ≤ win by omega)
    exact back_yes A c n b w hb hA hc h1 (by omega) (by omega)
  · exact back_no A _ c win w (by have := hb.1; simpa [bytesV] using this) (by omega)
end Go.Proofs.Ytaoodggdopdkeaa
