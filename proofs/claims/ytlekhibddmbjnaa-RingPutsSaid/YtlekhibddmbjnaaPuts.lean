/- The walk of RingPuts. -/
import Derived.Test.YtlekhibddmbjnaaLaws
namespace Go.Proofs.Ytlekhibddmbjnaa
open Go.RowKit

set_option maxHeartbeats 800000 in
set_option maxRecDepth 100000 in
theorem puts_no (room : Int) (A : Option Addr) (c : Nat) (l : List Int) (w : World) (h : room < 0 ∨ 65536 < room ∨ 200 < l.length) :
    Calls Try.prog 3 #[.int .i64 room, .slice A l.length c] w fun e w' => e = .returned (.bool true) ∧ Below w.heap.size w w' := by
  by_cases h1 : room < 0 ∨ 65536 < room
  · have H1 := hid h1
    by_cases h2 : room < 0
    · have t2 : decide (room < 0) = true := by simpa using h2
      clear h h1
      go_enter Try.func3, Try.ntmps3
      go_wp2_with fail
      refine (new_no room w H1.out).mono ?_
      rintro e w0 ⟨rfl, rfl⟩
      go_wp2_with fail
      refine (awake_any w).mono ?_
      rintro e w1 ⟨rfl, hb⟩
      go_wp2
      go_ret
      exact ⟨rfl, hb⟩
    · have t2 : decide (room < 0) = false := by simpa using h2
      have t3 : decide (65536 < room) = true := by simp; omega
      clear h h1
      go_enter Try.func3, Try.ntmps3
      go_wp2_with fail
      refine (new_no room w H1.out).mono ?_
      rintro e w0 ⟨rfl, rfl⟩
      go_wp2_with fail
      refine (awake_any w).mono ?_
      rintro e w1 ⟨rfl, hb⟩
      go_wp2
      go_ret
      exact ⟨rfl, hb⟩
  · obtain ⟨n, rfl⟩ := Int.eq_ofNat_of_zero_le (show 0 ≤ room by omega)
    have t1 := gt200 (n := l.length) (by omega)
    have hn : n ≤ 65536 := by omega
    have t2 : decide ((n : Int) < 0) = false := by simp
    have t3 : decide ((65536 : Int) < (n : Int)) = false := by simp; omega
    clear h h1
    go_enter Try.func3, Try.ntmps3
    go_wp2_with fail
    refine (new_yes n w hn).mono ?_
    rintro e w0 ⟨rfl, rfl⟩
    go_wp2_with fail
    refine (awake_any _).mono ?_
    rintro e w1 ⟨rfl, hb⟩
    go_wp2
    go_ret
    exact ⟨rfl, below_tr (below_new _ _) (by simp) hb⟩

set_option maxHeartbeats 1000000 in
set_option maxRecDepth 100000 in
theorem puts_yes (room : Nat) (A : Option Addr) (c : Nat) (l : List Int) (w : World) (hr : room ≤ 65536) (ll : l.length ≤ 200) (hl : Reads w A (ints l)) :
    Calls Try.prog 3 #[.int .i64 room, .slice A l.length c] w fun e w' => e = .returned (.bool true) ∧ Below w.heap.size w w' := by
  have t1 := le200 ll
  have HL := hid hl
  clear hl
  go_enter Try.func3, Try.ntmps3
  go_wp2_with fail
  refine (new_yes room w hr).mono ?_
  rintro e w0 ⟨rfl, hw0⟩
  have R0 := hid (ring_new w.heap.size w room (Nat.le_refl _))
  rw [← hw0] at R0
  have B0 : Hid (Below w.heap.size w w0) := by rw [hw0]; exact below_new _ _
  clear hw0
  go_wp2
  go_loopw [40] (fun i wr => ∃ k : Nat, k ≤ l.length ∧ i = .int .i64 k ∧ ∃ v, Hid (IsRing 52 3 (Value.int .i64) w.heap.size wr w.heap.size v room (l.take k)) ∧ Hid (Below w.heap.size w wr)) (fun i _ => l.length - (intOf i).toNat)
  case atStart => exact ⟨0, Nat.zero_le _, rfl, _, R0, B0⟩
  case round =>
    clear R0 B0
    obtain ⟨k, hk, rfl, v, HR, HB⟩ := hrel
    by_cases hlt : k < l.length
    · obtain ⟨ad, rfl, hc⟩ := (HL.out.below HB.out).2 k (by simpa using hlt)
      rw [List.getElem_map] at hc
      obtain ⟨x, hx⟩ : ∃ x, l[k] = x := ⟨_, rfl⟩
      rw [hx] at hc
      have HX := hid hx
      clear hx
      go_wp2_with fail
      refine (put_any HR.out x hr (by simp; omega)).mono ?_
      rintro e w1 ⟨rfl, v1, r1, tt, f1⟩
      have B1 := hid (tt.below HB.out HB.out.size HR.out.feet_ge)
      have HO := hid (Plain.out_row room (l.take k) x)
      rw [← HX.out, ← take_snoc hlt] at r1
      have R1 := hid r1
      clear r1 tt f1
      have lk : (l.take k).length = k := by simp; omega
      have LK := hid lk
      have lk1 : (l.take (k + 1)).length = k + 1 := by simp; omega
      have LK1 := hid lk1
      clear lk lk1 hc
      rw [HO.out, LK.out]
      by_cases hkr : k < room
      · rw [if_neg (by omega), if_pos hkr, show told none = .tuple #[.int .i64 0, .bool false] from rfl]
        go_wp2_with fail
        refine (len_any R1.out).mono ?_
        rintro e w2 ⟨rfl, rfl⟩
        rw [LK1.out, Nat.min_eq_left (by omega)]
        go_wp2_with fail
        refine (many_any R1.out).mono ?_
        rintro e w2 ⟨rfl, rfl⟩
        rw [LK1.out]
        go_wp2
        go_roundw
        case rel => exact ⟨k + 1, by omega, by go_num, v1, R1, B1⟩
        case measure => simp [intOf]; omega
      · have hj : k - room < l.length := by omega
        obtain ⟨y, hy⟩ : ∃ y, l[k - room] = y := ⟨_, rfl⟩
        have hout : (if room = 0 then some x else if k < room then none else (l.take k)[k - room]?) = some y := by
          by_cases h0 : room = 0
          · rw [if_pos h0, ← hy, ← HX.out]; simp [h0]
          · rw [if_neg h0, if_neg hkr, List.getElem?_take, if_pos (by omega), List.getElem?_eq_getElem hj, hy]
        rw [hout, show told (some y) = .tuple #[.int .i64 y, .bool true] from rfl]
        obtain ⟨ad', ea, hcy⟩ := (HL.out.below B1.out).2 (k - room) (by simpa using hj)
        obtain rfl : ad = ad' := Option.some.inj ea
        rw [List.getElem_map, hy] at hcy
        have hyy : (y != y) = false := by simp
        have hge : (room : Int) ≤ (k : Int) := by omega
        obtain ⟨j, hj2⟩ : ∃ j, k - room = j := ⟨_, rfl⟩
        rw [hj2] at hcy hj
        have hj3 : (k : Int) - (room : Int) = (j : Int) := by omega
        clear hout hy hj2 ea
        go_wp2_with fail
        refine (len_any R1.out).mono ?_
        rintro e w2 ⟨rfl, rfl⟩
        rw [LK1.out, Nat.min_eq_right (by omega)]
        go_wp2_with fail
        refine (many_any R1.out).mono ?_
        rintro e w2 ⟨rfl, rfl⟩
        rw [LK1.out]
        go_wp2
        go_roundw
        case rel => exact ⟨k + 1, by omega, by go_num, v1, R1, B1⟩
        case measure => simp [intOf]; omega
    · have hk2 : l.take k = l := List.take_of_length_le (by omega)
      rw [hk2] at HR
      clear hk2
      go_wp2
      obtain ⟨wo, rfl⟩ : ∃ wo : World, wo = wr := ⟨_, rfl⟩
      go_loopw [12] (fun i wr => ∃ a : Int, -2 ≤ a ∧ a ≤ l.length + 2 ∧ i = .int .i64 a ∧ Hid (IsRing 52 3 (Value.int .i64) w.heap.size wr w.heap.size v room l) ∧ Hid (Below w.heap.size w wr)) (fun i _ => ((l.length : Int) + 2 - intOf i).toNat)
      case atStart => exact ⟨-2, by omega, by omega, rfl, HR, HB⟩
      case round =>
        clear HR HB
        obtain ⟨a, ha1, ha2, rfl, HR, HB⟩ := hrel
        by_cases hal : a < (l.length : Int) + 2
        · go_wp2_with fail
          refine (at_any HR.out a hr (by omega)).mono ?_
          rintro e w1 ⟨rfl, h1⟩
          have B1 := hid (HB.out.trans (h1.below _))
          have R1 := hid (HR.out.calm h1)
          clear h1
          obtain ⟨p, hp⟩ : ∃ p, (aged room l a).getD 0 = p := ⟨_, rfl⟩
          obtain ⟨b, hb⟩ : ∃ p, (aged room l a).isSome = p := ⟨_, rfl⟩
          rw [told_eq, hp, hb]
          have HP := hid hp
          have HQ := hid hb
          have hpp : (p != p) = false := by simp
          have hbb : (b != b) = false := by simp
          clear hp hb
          go_wp2_with fail
          refine (ref_any (HL.out.below B1.out) c room a (by omega)).mono ?_
          rintro e w2 ⟨rfl, h2⟩
          have B2 := hid (B1.out.trans (h2.below _))
          have R2 := hid (R1.out.calm h2)
          clear h2
          rw [told_eq, HP.out, HQ.out]
          go_wp2
          go_roundw
          case rel => exact ⟨a + 1, by omega, by omega, rfl, R2, B2⟩
          case measure => simp [intOf]; omega
        · go_wp2_with fail
          refine (room_any HR.out).mono ?_
          rintro e w1 ⟨rfl, rfl⟩
          go_wp2_with fail
          refine (awake_any _).mono ?_
          rintro e w3 ⟨rfl, h3⟩
          go_wp2
          go_ret
          exact ⟨rfl, below_trans HB.out h3⟩
end Go.Proofs.Ytlekhibddmbjnaa
