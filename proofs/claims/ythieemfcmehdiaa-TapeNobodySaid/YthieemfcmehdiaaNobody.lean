/- The walk of TapeNobody. -/
import Derived.Test.YthieemfcmehdiaaAppend
import Derived.Test.YthieemfcmehdiaaNil
namespace Go.Proofs.Ythieemfcmehdiaa
open Go.RowKit Go.Shelf

set_option maxHeartbeats 1000000 in
set_option maxRecDepth 100000 in
theorem nobody_any (B : Option Addr) (k : Nat) (b : List UInt8) (n : Int) (w : World) (hb : Reads w B (bytesV b)) (hk : B = none → k = 0) :
    Calls Try.prog 5 #[.slice B b.length k, .int .i64 n] w fun e w' => e = .returned (.bool true) ∧ Below w.heap.size w w' := by
  have hbl : b.length ≤ 9223372036854775807 := by have := hb.1; simpa [bytesV] using this
  by_cases hl : b.length ≤ 200
  · have t1 : decide ((200 : Int) < (b.length : Int)) = false := by simp; omega
    have HB := hid hb
    have HK := hid hk
    clear hb hk
    go_enter Try.func5, Try.ntmps5
    go_wp2_with fail
    refine (sync_nil w).mono ?_
    rintro e w' ⟨⟨v1, rfl⟩, rfl⟩
    go_wp2_with fail
    refine (crash_nil n n w').mono ?_
    rintro e w1 ⟨⟨v2, rfl⟩, rfl⟩
    go_wp2_with fail
    refine (append_nil B k b w1 HB.out HK.out (by omega)).mono ?_
    rintro e w2 ⟨rfl, b2⟩
    have B2 := hid b2
    clear b2
    go_wp2_with fail
    refine (mark_nil w2).mono ?_
    rintro e w3 ⟨rfl, b3⟩
    have B3 := hid (below_trans B2.out b3)
    clear b3
    go_wp2_with fail
    refine (cut_nil n w3).mono ?_
    rintro e w4 ⟨rfl, rfl⟩
    go_wp2_with fail
    refine (len_nil w4).mono ?_
    rintro e w5 ⟨rfl, rfl⟩
    go_wp2_with fail
    refine (callsIn_wide.1 (items_nil w5)).mono ?_
    rintro e w6 ⟨rfl, b6⟩
    have B6 := hid (below_trans B3.out b6)
    clear b6
    go_wp2_with fail
    refine (room_nil w6).mono ?_
    rintro e w7 ⟨rfl, rfl⟩
    go_wp2_with fail
    refine (safe_nil w7).mono ?_
    rintro e w8 ⟨rfl, rfl⟩
    go_wp2_with fail
    refine (early_nil w8).mono ?_
    rintro e w9 ⟨rfl, m, rfl⟩
    have B9 := hid (B6.out.trans ((Calm.of_drewN w8 m).below _))
    go_wp2_with fail
    refine (copy_nil _).mono ?_
    rintro e w10 ⟨rfl, rfl⟩
    go_wp2_with fail
    refine (awake_any _).mono ?_
    rintro e w11 ⟨rfl, b11⟩
    have B11 := hid (below_trans B9.out b11)
    clear b11
    go_wp2
    go_ret
    exact ⟨rfl, B11.out⟩
  · have t1 : decide ((200 : Int) < (b.length : Int)) = true := by simp; omega
    clear hb hk
    go_enter Try.func5, Try.ntmps5
    go_wp2_with fail
    refine (awake_any w).mono ?_
    rintro e w1 ⟨rfl, b1⟩
    have B1 := hid b1
    clear b1
    go_wp2
    go_ret
    exact ⟨rfl, B1.out⟩
end Go.Proofs.Ythieemfcmehdiaa
