/- The walk of MatchParses. -/
import Derived.Test.YtaoodggdopdkeaaLaws
import Derived.Test.YtaoodggdopdkeaaParseRef
namespace Go.Proofs.Ytaoodggdopdkeaa
open Go.RowKit

set_option maxHeartbeats 1000000 in
set_option maxRecDepth 100000 in
theorem parses_no (A : Option Addr) (n c : Nat) (win : Int) (w : World) (hn : n ≤ 9223372036854775807) (h : 400 < n ∨ win < 1 ∨ 32768 < win) :
    Calls Try.prog 3 #[.slice A n c, .int .i64 win] w fun e w' => e = .returned (.bool true) ∧ Below w.heap.size w w' := by
  by_cases h1 : 400 < n
  · have t1 : decide ((400 : Int) < n) = true := by simp; omega
    clear h
    go_enter Try.func3, Try.ntmps3
    go_wp2_with fail
    refine (awake_any w).mono ?_
    rintro e w1 ⟨rfl, b1⟩
    have B1 := hid b1
    clear b1
    go_wp2
    go_ret
    exact ⟨rfl, B1.out⟩
  · have t1 : decide ((400 : Int) < n) = false := by simp; omega
    have hw : win < 1 ∨ 32768 < win := by omega
    by_cases h2 : win < 1
    · clear h hw
      go_enter Try.func3, Try.ntmps3
      go_wp2_with fail
      refine (parse_no A n c win w (.inl h2)).mono ?_
      rintro e w' ⟨rfl, rfl⟩
      go_wp2_with fail
      refine (awake_any w').mono ?_
      rintro e w1 ⟨rfl, b1⟩
      have B1 := hid b1
      clear b1
      go_wp2
      go_ret
      exact ⟨rfl, B1.out⟩
    · have h3 : 32768 < win := by omega
      clear h hw
      go_enter Try.func3, Try.ntmps3
      go_wp2_with fail
      refine (parse_no A n c win w (.inr h3)).mono ?_
      rintro e w' ⟨rfl, rfl⟩
      go_wp2_with fail
      refine (awake_any w').mono ?_
      rintro e w1 ⟨rfl, b1⟩
      have B1 := hid b1
      clear b1
      go_wp2
      go_ret
      exact ⟨rfl, B1.out⟩
set_option maxHeartbeats 2000000 in
set_option maxRecDepth 100000 in
theorem parses_yes (A : Option Addr) (c win : Nat) (b : List UInt8) (w : World) (hb : Reads w A (bytesV b)) (hA : A = none → c = 0) (hc : b.length ≤ c) (hn : b.length ≤ 400) (h1 : 1 ≤ win) (h2 : win ≤ 32768) :
    Calls Try.prog 3 #[.slice A b.length c, .int .i64 win] w fun e w' => e = .returned (.bool true) ∧ Below w.heap.size w w' := by
  have HB := hid hb
  have HA := hid hA
  have t1 : decide ((400 : Int) < (b.length : Int)) = false := by simp; omega
  have t2 : decide ((win : Int) < 1) = false := by simp; omega
  have t3 : decide ((32768 : Int) < (win : Int)) = false := by simp; omega
  have hlen := allToks_len b win
  have hal : (allToks b win).length ≤ 1000000 := by omega
  have HWF : Hid (∀ t ∈ allToks b win, t.wf) := hid (ofTk_wf (by omega) h2 _ _)
  clear hb hA hlen
  go_enter Try.func3, Try.ntmps3
  go_wp2_with fail
  refine (parse_reads A c win b w HB.out HA.out hc (by omega) h1 h2).mono ?_
  rintro e w1 ⟨A1, c1, rfl, hr, hz, hcl, b1⟩
  have HR := hid hr
  have B1 := hid b1
  clear hr b1 hz
  go_wp2_with fail
  refine (refparse A c win b w1 (HB.out.below B1.out) (by omega) h2).mono ?_
  rintro e w2 ⟨v, rfl, o2, b2⟩
  obtain ⟨A2, c2, rfl, hr2, hz2, _⟩ := own_readsT o2 (by omega) HWF.out
  have HR2 := hid hr2
  have B2 := hid (below_trans B1.out b2)
  have HR1 := hid (HR.out.below b2)
  clear o2 b2 hr2 hz2
  obtain ⟨ts, hts⟩ : ∃ ts, allToks b win = ts := ⟨_, rfl⟩
  rw [hts] at HR1 HR2 HWF hcl hal ⊢
  clear hts
  have d0 : ((ts.length : Int) == (ts.length : Int)) = true := by simp
  go_wp2_with fail
  refine (given_any A1 c1 ts w2 HR1.out (by omega)).mono ?_
  rintro e w3 ⟨v, rfl, o3, b3⟩
  obtain ⟨A3, c3, rfl, hr3, hz3, _⟩ := own_readsT o3 (by omega) HWF.out
  have HR3 := hid hr3
  have HR2' := hid (HR2.out.below b3)
  have B3 := hid (below_trans B2.out b3)
  clear o3 b3 hr3 hz3 d0
  go_wp2
  go_loopw [39] (fun i wr => ∃ k : Nat, k ≤ ts.length ∧ i = .int .i64 k ∧ Hid (Below w3.heap.size w3 wr)) (fun i _ => ts.length - (intOf i).toNat)
  case atStart => exact ⟨0, Nat.zero_le _, rfl, hid (Below.refl _ _)⟩
  case round =>
    obtain ⟨k, hk, rfl, HK⟩ := hrel
    by_cases hlt : k < ts.length
    · have dl : decide (k < ts.length) = true := by simpa using hlt
      obtain ⟨ad3, rfl, d0, d1, d2, _⟩ := (HR3.out.below HK.out).2 k hlt
      obtain ⟨ad2, rfl, f0, f1, f2, _⟩ := (HR2'.out.below HK.out).2 k hlt
      obtain ⟨t, ht⟩ : ∃ t, ts[k] = t := ⟨_, rfl⟩
      rw [ht] at d0 d1 d2 f0 f1 f2
      have hkl : (k : Int) < (ts.length : Int) := by omega
      have hk0 : (0 : Int) ≤ (k : Int) := by omega
      clear ht
      go_wp2
      obtain ⟨W0, hW0⟩ : ∃ W0, wr.alloc (.cells #[.int .u8 t.lit.toNat, .int .i64 t.len, .int .i64 t.back] 30) = W0 := ⟨_, rfl⟩
      obtain ⟨G, hG⟩ : ∃ G, wr.heap.size = G := ⟨_, rfl⟩
      have g0 := (cell_new wr #[.int .u8 t.lit.toNat, .int .i64 t.len, .int .i64 t.back] 30 (0, 0) 0).trans rfl
      have g1 := (cell_new wr #[.int .u8 t.lit.toNat, .int .i64 t.len, .int .i64 t.back] 30 (0, 0) 1).trans rfl
      have g2 := (cell_new wr #[.int .u8 t.lit.toNat, .int .i64 t.len, .int .i64 t.back] 30 (0, 0) 2).trans rfl
      have e0 := cell_past (.cells #[.int .u8 t.lit.toNat, .int .i64 t.len, .int .i64 t.back] 30) f0
      have e1 := cell_past (.cells #[.int .u8 t.lit.toNat, .int .i64 t.len, .int .i64 t.back] 30) f1
      have e2 := cell_past (.cells #[.int .u8 t.lit.toNat, .int .i64 t.len, .int .i64 t.back] 30) f2
      have bW : Below w3.heap.size w3 W0 := by rw [← hW0]; exact below_trans HK.out (below_new _ _)
      rw [hW0, hG] at g0 g1 g2
      rw [hW0] at e0 e1 e2
      rw [hW0, hG]
      have BW := hid bW
      clear hW0 hG f0 f1 f2 d0 d1 d2 bW
      go_quiet (fail)
      have BL : Hid (Below w3.heap.size w3 (W0.drewN nq)) := hid (BW.out.trans ((Calm.of_drewN W0 nq).below _))
      clear e0 e1 e2 g0 g1 g2
      go_wp2
      go_roundw
      case rel => exact ⟨k + 1, by omega, by go_num, BL⟩
      case measure => simp [intOf]; omega
    · have dl : decide (k < ts.length) = false := by simpa using hlt
      go_wp2_with fail
      refine (awake_any wr).mono ?_
      rintro e w6 ⟨rfl, b6⟩
      have B6 := hid b6
      clear b6
      go_wp2
      go_ret
      exact ⟨rfl, below_trans (below_trans B3.out HK.out) B6.out⟩
theorem parses_any (A : Option Addr) (c : Nat) (win : Int) (b : List UInt8) (w : World) (hb : Reads w A (bytesV b)) (hA : A = none → c = 0) (hc : b.length ≤ c) :
    Calls Try.prog 3 #[.slice A b.length c, .int .i64 win] w fun e w' => e = .returned (.bool true) ∧ Below w.heap.size w w' := by
  by_cases h : b.length ≤ 400 ∧ 1 ≤ win ∧ win ≤ 32768
  · obtain ⟨h1, h2, h3⟩ := h
    obtain ⟨n, rfl⟩ := Int.eq_ofNat_of_zero_le (show 0 ≤ win by omega)
    exact parses_yes A c n b w hb hA hc h1 (by omega) (by omega)
  · exact parses_no A _ c win w (by have := hb.1; simpa [bytesV] using this) (by omega)
end Go.Proofs.Ytaoodggdopdkeaa
