/- The walks of RingAges and RingNewest. -/
import Derived.Test.YtlekhibddmbjnaaAt
namespace Go.Proofs.Ytlekhibddmbjnaa
open Go.RowKit

abbrev ints (l : List Int) : List Value := l.map (Value.int .i64)
theorem take_snoc {α : Type} {l : List α} {k : Nat} (h : k < l.length) : l.take (k + 1) = l.take k ++ [l[k]] := List.take_succ_eq_append_getElem h
theorem told_eq (o : Option Int) : told o = .tuple #[.int .i64 (o.getD 0), .bool o.isSome] := rfl
theorem gt200 {n : Nat} (h : 200 < n) : decide ((200 : Int) < (n : Int)) = true := by simp; omega
theorem le200 {n : Nat} (h : n ≤ 200) : decide ((200 : Int) < (n : Int)) = false := by simp; omega
theorem bool_eq_self (b : Bool) : (b == b) = true := by simp

set_option maxHeartbeats 800000 in
set_option maxRecDepth 100000 in
theorem ages_no (room : Int) (A : Option Addr) (c : Nat) (l : List Int) (age : Int) (w : World) (h : room < 0 ∨ 65536 < room ∨ 200 < l.length) :
    Calls Try.prog 4 #[.int .i64 room, .slice A l.length c, .int .i64 age] w fun e w' => e = .returned (.bool true) ∧ Below w.heap.size w w' := by
  by_cases h1 : room < 0 ∨ 65536 < room
  · have H1 := hid h1
    clear h h1
    go_enter Try.func4, Try.ntmps4
    go_wp2_with fail
    refine (new_no room w H1.out).mono ?_
    rintro e w0 ⟨rfl, rfl⟩
    go_wp2_with fail
    refine (awake_any w).mono ?_
    rintro e w1 ⟨rfl, hb⟩
    go_wp2
    go_ret
    exact ⟨rfl, hb⟩
  · obtain ⟨n, rfl⟩ := Int.eq_ofNat_of_zero_le (show 0 ≤ room by omega)
    have t1 := gt200 (n := l.length) (by omega)
    have hn : n ≤ 65536 := by omega
    clear h h1
    go_enter Try.func4, Try.ntmps4
    go_wp2_with fail
    refine (new_yes n w hn).mono ?_
    rintro e w0 ⟨rfl, rfl⟩
    go_wp2_with fail
    refine (awake_any _).mono ?_
    rintro e w1 ⟨rfl, hb⟩
    go_wp2
    go_ret
    exact ⟨rfl, below_tr (below_new _ _) (by simp) hb⟩

set_option maxHeartbeats 800000 in
set_option maxRecDepth 100000 in
theorem ages_yes (room : Nat) (A : Option Addr) (c : Nat) (l : List Int) (age : Int) (w : World) (hr : room ≤ 65536) (ll : l.length ≤ 200) (hl : Reads w A (ints l)) :
    Calls Try.prog 4 #[.int .i64 room, .slice A l.length c, .int .i64 age] w fun e w' => e = .returned (.bool true) ∧ Below w.heap.size w w' := by
  have t1 := le200 ll
  have HL := hid hl
  clear hl
  go_enter Try.func4, Try.ntmps4
  go_wp2_with fail
  refine (new_yes room w hr).mono ?_
  rintro e w0 ⟨rfl, hw0⟩
  have R0 := hid (ring_new w.heap.size w room (Nat.le_refl _))
  rw [← hw0] at R0
  have B0 : Hid (Below w.heap.size w w0) := by rw [hw0]; exact below_new _ _
  clear hw0
  go_wp2
  go_loopw [26] (fun i wr => ∃ k : Nat, k ≤ l.length ∧ i = .int .i64 k ∧ ∃ v, Hid (IsRing 52 3 (Value.int .i64) w.heap.size wr w.heap.size v room (l.take k)) ∧ Hid (Below w.heap.size w wr)) (fun i _ => l.length - (intOf i).toNat)
  case atStart => exact ⟨0, Nat.zero_le _, rfl, _, R0, B0⟩
  case round =>
    clear R0 B0
    obtain ⟨k, hk, rfl, v, HR, HB⟩ := hrel
    by_cases hlt : k < l.length
    · obtain ⟨ad, rfl, hc⟩ := (HL.out.below HB.out).2 k (by simpa using hlt)
      rw [List.getElem_map] at hc
      obtain ⟨x, hx⟩ : ∃ x, l[k] = x := ⟨_, rfl⟩
      rw [hx] at hc
      have HX := hid hx
      clear hx
      go_wp2_with fail
      refine (put_any HR.out x hr (by simp; omega)).mono ?_
      rintro e w1 ⟨rfl, v1, r1, tt, f1⟩
      have B1 := hid (tt.below HB.out HB.out.size HR.out.feet_ge)
      rw [← HX.out, ← take_snoc hlt] at r1
      have R1 := hid r1
      clear r1 tt f1
      go_wp2
      go_roundw
      case rel => exact ⟨k + 1, by omega, by go_num, v1, R1, B1⟩
      case measure => simp [intOf]; omega
    · have hk2 : l.take k = l := List.take_of_length_le (by omega)
      rw [hk2] at HR
      clear hk2
      go_wp2_with fail
      refine (at_any HR.out age hr (by omega)).mono ?_
      rintro e w1 ⟨rfl, h1⟩
      have B1 := hid (HB.out.trans (h1.below _))
      clear h1
      obtain ⟨p, hp⟩ : ∃ p, (aged room l age).getD 0 = p := ⟨_, rfl⟩
      obtain ⟨b, hb⟩ : ∃ p, (aged room l age).isSome = p := ⟨_, rfl⟩
      rw [told_eq, hp, hb]
      have HP := hid hp
      have HQ := hid hb
      have hbb := bool_eq_self b
      clear hp hb
      go_wp2_with fail
      refine (ref_any (HL.out.below B1.out) c room age (by omega)).mono ?_
      rintro e w2 ⟨rfl, h2⟩
      have B2 := hid (B1.out.trans (h2.below _))
      clear h2
      rw [told_eq, HP.out, HQ.out]
      go_wp2_with fail
      refine (awake_any _).mono ?_
      rintro e w3 ⟨rfl, h3⟩
      go_wp2
      go_ret
      exact ⟨rfl, below_trans B2.out h3⟩

set_option maxHeartbeats 800000 in
set_option maxRecDepth 100000 in
theorem newest_no (room : Int) (A : Option Addr) (c : Nat) (l : List Int) (x : Int) (w : World) (h : room < 0 ∨ 65536 < room ∨ 200 < l.length) :
    Calls Try.prog 5 #[.int .i64 room, .slice A l.length c, .int .i64 x] w fun e w' => e = .returned (.bool true) ∧ Below w.heap.size w w' := by
  by_cases h1 : room < 0 ∨ 65536 < room
  · have H1 := hid h1
    clear h h1
    go_enter Try.func5, Try.ntmps5
    go_wp2_with fail
    refine (new_no room w H1.out).mono ?_
    rintro e w0 ⟨rfl, rfl⟩
    go_wp2_with fail
    refine (awake_any w).mono ?_
    rintro e w1 ⟨rfl, hb⟩
    go_wp2
    go_ret
    exact ⟨rfl, hb⟩
  · obtain ⟨n, rfl⟩ := Int.eq_ofNat_of_zero_le (show 0 ≤ room by omega)
    have t1 := gt200 (n := l.length) (by omega)
    have hn : n ≤ 65536 := by omega
    clear h h1
    go_enter Try.func5, Try.ntmps5
    go_wp2_with fail
    refine (new_yes n w hn).mono ?_
    rintro e w0 ⟨rfl, rfl⟩
    go_wp2_with fail
    refine (awake_any _).mono ?_
    rintro e w1 ⟨rfl, hb⟩
    go_wp2
    go_ret
    exact ⟨rfl, below_tr (below_new _ _) (by simp) hb⟩

theorem aged_newest (room : Nat) (l : List Int) (x : Int) : aged room (l ++ [x]) 0 = if 0 < room then some x else none := by
  unfold aged
  by_cases h : 0 < room
  · rw [if_pos ⟨by omega, by simp, by omega⟩, if_pos h]
    simp
  · rw [if_neg (by omega), if_neg h]
set_option maxHeartbeats 800000 in
set_option maxRecDepth 100000 in
theorem newest_yes (room : Nat) (A : Option Addr) (c : Nat) (l : List Int) (x : Int) (w : World) (hr : room ≤ 65536) (ll : l.length ≤ 200) (hl : Reads w A (ints l)) :
    Calls Try.prog 5 #[.int .i64 room, .slice A l.length c, .int .i64 x] w fun e w' => e = .returned (.bool true) ∧ Below w.heap.size w w' := by
  have t1 := le200 ll
  have HL := hid hl
  clear hl
  go_enter Try.func5, Try.ntmps5
  go_wp2_with fail
  refine (new_yes room w hr).mono ?_
  rintro e w0 ⟨rfl, hw0⟩
  have R0 := hid (ring_new w.heap.size w room (Nat.le_refl _))
  rw [← hw0] at R0
  have B0 : Hid (Below w.heap.size w w0) := by rw [hw0]; exact below_new _ _
  clear hw0
  go_wp2
  go_loopw [24] (fun i wr => ∃ k : Nat, k ≤ l.length ∧ i = .int .i64 k ∧ ∃ v, Hid (IsRing 52 3 (Value.int .i64) w.heap.size wr w.heap.size v room (l.take k)) ∧ Hid (Below w.heap.size w wr)) (fun i _ => l.length - (intOf i).toNat)
  case atStart => exact ⟨0, Nat.zero_le _, rfl, _, R0, B0⟩
  case round =>
    clear R0 B0
    obtain ⟨k, hk, rfl, v, HR, HB⟩ := hrel
    by_cases hlt : k < l.length
    · obtain ⟨ad, rfl, hc⟩ := (HL.out.below HB.out).2 k (by simpa using hlt)
      rw [List.getElem_map] at hc
      obtain ⟨y, hy⟩ : ∃ x, l[k] = x := ⟨_, rfl⟩
      rw [hy] at hc
      have HX := hid hy
      clear hy
      go_wp2_with fail
      refine (put_any HR.out y hr (by simp; omega)).mono ?_
      rintro e w1 ⟨rfl, v1, r1, tt, f1⟩
      have B1 := hid (tt.below HB.out HB.out.size HR.out.feet_ge)
      rw [← HX.out, ← take_snoc hlt] at r1
      have R1 := hid r1
      clear r1 tt f1
      go_wp2
      go_roundw
      case rel => exact ⟨k + 1, by omega, by go_num, v1, R1, B1⟩
      case measure => simp [intOf]; omega
    · have hk2 : l.take k = l := List.take_of_length_le (by omega)
      rw [hk2] at HR
      clear hk2
      go_wp2_with fail
      refine (put_any HR.out x hr (by omega)).mono ?_
      rintro e w1 ⟨rfl, v1, r1, tt, f1⟩
      have B1 := hid (tt.below HB.out HB.out.size HR.out.feet_ge)
      have R1 := hid r1
      clear r1 tt f1
      go_wp2_with fail
      refine (at_any R1.out 0 hr (by simp; omega)).mono ?_
      rintro e w2 ⟨rfl, h2⟩
      have B2 := hid (B1.out.trans (h2.below _))
      clear h2
      rw [aged_newest]
      by_cases h0 : 0 < room
      · rw [if_pos h0, show told (some x) = .tuple #[.int .i64 x, .bool true] from rfl]
        have t0 : decide ((0 : Int) < (room : Int)) = true := by simpa using h0
        go_wp2_with fail
        refine (awake_any _).mono ?_
        rintro e w3 ⟨rfl, h3⟩
        go_wp2
        go_ret
        exact ⟨rfl, below_trans B2.out h3⟩
      · rw [if_neg h0, show told none = .tuple #[.int .i64 0, .bool false] from rfl]
        have t0 : decide ((0 : Int) < (room : Int)) = false := by simpa using h0
        go_wp2_with fail
        refine (awake_any _).mono ?_
        rintro e w3 ⟨rfl, h3⟩
        go_wp2
        go_ret
        exact ⟨rfl, below_trans B2.out h3⟩
end Go.Proofs.Ytlekhibddmbjnaa
