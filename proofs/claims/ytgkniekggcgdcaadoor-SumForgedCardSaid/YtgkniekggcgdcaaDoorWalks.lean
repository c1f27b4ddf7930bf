/- The walks of sum.Update and of the reference's Of: what each call returns, as the plain law of Crc has it. -/
import Derived.Test.YtgkniekggcgdcaaDoorChecked
import Derived.Test.YtgkniekggcgdcaaDoorCrc
import Derived.WalkKit
import Derived.WalkSpells
import Derived.WalkLawsBesides
import Derived.Laws.BitsAllLaws
namespace Go.Proofs.YtgkniekggcgdcaaDoor
open Go.RowKit Crc

theorem hid {p : Prop} (h : p) : Hid p := h
/-- a word as the number that a cell holds -/
def U (x : W) : Int := (x.toNat : Int)
theorem U_lo (x : W) : 0 ≤ U x := by unfold U; omega
theorem U_hi (x : W) : U x < 4294967296 := by unfold U; have := x.isLt; omega
theorem U_xor (x y : W) : bits .xor .u32 (U x) (U y) = U (x ^^^ y) := by
  unfold U
  rw [u32_xor_nat _ _ x.isLt y.isLt, BitVec.toNat_xor]
theorem U_not' (x : W) : bits .xor .u32 (U ones) (U x) = U (~~~ x) := by
  rw [U_xor]
  congr 1
theorem U_not (x : W) : bits .xor .u32 IntKind.u32.max (U x) = U (~~~ x) := by
  have h : IntKind.u32.max = U ones := by decide
  rw [h, U_not']
theorem U_and15 (x : W) : bits .and .u32 (U x) 15 = U (x &&& 15#32) := by
  have h : (15 : Int) = ((15#32 : W).toNat : Int) := rfl
  unfold U
  rw [h, u32_and_nat _ _ x.isLt (by decide), BitVec.toNat_and]
theorem U_15 (x : W) : U (x &&& 15#32) < 16 := by
  unfold U
  rw [BitVec.toNat_and]
  have : x.toNat &&& (15#32 : W).toNat ≤ 15 := Nat.and_le_right
  omega
theorem U_shr4 (x : W) : (U x) / (16 : Int) = U (x >>> (4 : Nat)) := by
  unfold U
  rw [BitVec.toNat_ushiftRight, Nat.shiftRight_eq_div_pow]
  rfl
theorem U_byte (c : UInt8) : (c.toNat : Int) = U (z8 c) := by
  unfold U
  show _ = ((BitVec.setWidth 32 c.toBitVec).toNat : Int)
  rw [BitVec.toNat_setWidth, Nat.mod_eq_of_lt (by have := c.toBitVec.isLt; omega)]
  rfl
theorem byte_hi (c : UInt8) : (c.toNat : Int) < 256 := by have := c.toNat_lt; omega
theorem u32_signed : IntKind.u32.signed = false := rfl

/-- the table lies in block 0 -/
def Tab (w : World) : Prop := ∀ i : Nat, i < 16 → w.cell? ⟨0, i, none⟩ = some (.int .u32 (U (Bk 4 (BitVec.ofNat 32 i))))
theorem Tab.at_ {w : World} (h : Tab w) (x : W) : w.cell? ⟨0, (U (x &&& 15#32)).toNat, none⟩ = some (.int .u32 (U (Bk 4 (x &&& 15#32)))) := by
  have h1 := U_15 x
  have h2 := h (x &&& 15#32).toNat (by unfold U at h1; omega)
  rw [BitVec.ofNat_toNat, BitVec.setWidth_eq] at h2
  exact h2
/-- a slice of bytes that is read -/
def Bytes (w : World) (A : Option Addr) (l : List UInt8) : Prop :=
  l.length ≤ 9223372036854775807 ∧ ∀ i (h : i < l.length), ∃ ad, A = some ad ∧ w.cell? (ad.add i) = some (.int .u8 (l[i].toNat : Int))

/-- the numbers of a round -/
theorem round_nums {w : World} (ht : Tab w) (x : W) (c : UInt8) : ∃ x0 c0 x1 i1 t1 x2 i2 t2 x3 : Int, U x = x0 ∧ (c.toNat : Int) = c0 ∧ U (stp x c) = x3 ∧
    (0 ≤ x0 ∧ x0 < 4294967296 ∧ 0 ≤ c0 ∧ c0 < 256 ∧ bits .xor .u32 x0 c0 = x1 ∧ 0 ≤ x1 ∧ x1 < 4294967296 ∧ bits .and .u32 x1 15 = i1 ∧ 0 ≤ i1 ∧ i1 < 16 ∧ w.cell? ⟨0, i1.toNat, none⟩ = some (.int .u32 t1)) ∧
    (bits .xor .u32 t1 (x1 / 16) = x2 ∧ 0 ≤ x2 ∧ x2 < 4294967296 ∧ bits .and .u32 x2 15 = i2 ∧ 0 ≤ i2 ∧ i2 < 16 ∧ w.cell? ⟨0, i2.toNat, none⟩ = some (.int .u32 t2) ∧ bits .xor .u32 t2 (x2 / 16) = x3) := by
  refine ⟨U x, _, U (x ^^^ z8 c), U ((x ^^^ z8 c) &&& 15#32), U (Bk 4 ((x ^^^ z8 c) &&& 15#32)), U (Bk 4 (x ^^^ z8 c)), U (Bk 4 (x ^^^ z8 c) &&& 15#32), U (Bk 4 (Bk 4 (x ^^^ z8 c) &&& 15#32)), U (stp x c), rfl, rfl, rfl,
    ⟨U_lo _, U_hi _, by omega, byte_hi c, by rw [U_byte, U_xor], U_lo _, U_hi _, U_and15 _, U_lo _, U_15 _, ht.at_ _⟩, ⟨by rw [U_shr4, U_xor, nibble], U_lo _, U_hi _, U_and15 _, U_lo _, U_15 _, ht.at_ _, ?_⟩⟩
  rw [U_shr4, U_xor, nibble]
  unfold stp
  rw [← Bk_add 4 4]

attribute [local go_sem] u32_signed

theorem take_succ_at {l : List UInt8} {k : Nat} (h : k < l.length) (s : W) : st s (l.take (k + 1)) = stp (st s (l.take k)) l[k] := by
  rw [List.take_succ_eq_append_getElem h, st_append]; rfl
theorem ret_u32 {a b : Int} (h : a = b) : Ending.returned (.int .u32 a) = .returned (.int .u32 b) := by rw [h]

set_option maxHeartbeats 400000 in
set_option maxRecDepth 100000 in
theorem update_any (n : W) (A : Option Addr) (l : List UInt8) (cap : Nat) (w : World) (hl : Bytes w A l) (ht : Tab w) :
    Calls Tryd.prog 12 #[.int .u32 (U n), .slice A l.length cap] w fun e w' => e = .returned (.int .u32 (U (upd n l))) ∧ w = w' := by
  have hn := U_not n
  obtain ⟨n0, hn0⟩ : ∃ n0, U n = n0 := ⟨_, rfl⟩
  obtain ⟨n1, hn1⟩ : ∃ n1, U (~~~ n) = n1 := ⟨_, rfl⟩
  rw [hn0, hn1] at hn
  rw [hn0]
  have H1 := hid hn1
  clear hn0 hn1
  have HB := hid hl
  have hlen := hl.1
  have HT := hid ht
  clear hl ht
  go_enter Tryd.func12, Tryd.ntmps12
  go_wp2
  go_loop [0, 11] (fun v i => ∃ k : Nat, k ≤ l.length ∧ i = .int .i64 k ∧ ∃ x0 : Int, v = .int .u32 x0 ∧ Hid (x0 = U (st (~~~ n) (l.take k)))) (fun _ i => l.length - (intOf i).toNat)
  case atStart => exact ⟨0, Nat.zero_le _, rfl, _, rfl, H1.out.symm⟩
  case round =>
    clear hn
    obtain ⟨k, hk, rfl, y0, rfl, hy⟩ := hrel
    by_cases hlt : k < l.length
    · obtain ⟨ad, rfl, hck⟩ := HB.out.2 k hlt
      obtain ⟨x0, c0, x1, i1, t1, x2, i2, t2, x3, e1, e2, e3, ⟨a1, a2, a3, a4, a5, a6, a7, a8, a9, a10, a11⟩, ⟨b1, b2, b3, b4, b5, b6, b7, b8⟩⟩ := round_nums HT.out (st (~~~ n) (l.take k)) l[k]
      obtain rfl : y0 = x0 := hy.out.trans e1
      rw [e2] at hck
      have E3 := hid e3
      clear e1 e2 e3 hy
      go_wp2
      go_round
      case rel => exact ⟨k + 1, by omega, by go_num, _, rfl, by rw [take_succ_at hlt]; exact E3.out.symm⟩
      case measure => simp [intOf]; omega
    · have hx := U_not (st (~~~ n) (l.take k))
      rw [← hy.out] at hx
      have hz : U (~~~ (st (~~~ n) (l.take k))) = U (upd n l) := by rw [List.take_of_length_le (by omega)]; rfl
      obtain ⟨z0, hz0⟩ : ∃ z0, U (~~~ (st (~~~ n) (l.take k))) = z0 := ⟨_, rfl⟩
      rw [hz0] at hx hz
      have HZ := hid hz
      clear hz hz0 hy
      go_wp2
      go_ret
      exact ⟨ret_u32 HZ.out, rfl⟩

/-! the reference -/
theorem odd_bit (x : W) : x.getLsbD 0 = decide (x.toNat % 2 = 1) := by
  show x.toNat.testBit 0 = _
  rw [Nat.testBit_zero]
theorem bit_odd (x : W) (h : U x % 2 = 1) : bits .xor .u32 (U x / 2) 2197175160 = U (B x) := by
  have e : U x / (2 : Int) = U (x >>> (1 : Nat)) := by
    unfold U; rw [BitVec.toNat_ushiftRight, Nat.shiftRight_eq_div_pow]; rfl
  have hp : (2197175160 : Int) = U poly := by decide
  have hx : x.getLsbD 0 = true := by rw [odd_bit]; unfold U at h; simp; omega
  rw [e, hp, U_xor]
  unfold B
  rw [hx]; rfl
theorem bit_even (x : W) (h : ¬ U x % 2 = 1) : U x / 2 = U (B x) := by
  have e : U x / (2 : Int) = U (x >>> (1 : Nat)) := by
    unfold U; rw [BitVec.toNat_ushiftRight, Nat.shiftRight_eq_div_pow]; rfl
  have hx : x.getLsbD 0 = false := by rw [odd_bit]; unfold U at h; simp; omega
  rw [e]
  unfold B
  rw [hx]; simp
set_option maxHeartbeats 400000 in
set_option maxRecDepth 100000 in
theorem ref_any (A : Option Addr) (l : List UInt8) (cap : Nat) (w : World) (hl : Bytes w A l) :
    Calls Tryd.prog 11 #[.slice A l.length cap] w fun e w' => e = .returned (.int .u32 (U (Crc.of l))) ∧ w = w' := by
  have HB := hid hl
  have hlen := hl.1
  clear hl
  have h0 : (4294967295 : Int) = U (st ones (l.take 0)) := by show _ = U ones; decide
  have H0 := hid h0
  clear h0
  go_enter Tryd.func11, Tryd.ntmps11
  go_wp2
  go_loop [3, 4] (fun v i => ∃ k : Nat, k ≤ l.length ∧ i = .int .i64 k ∧ ∃ x0 : Int, v = .int .u32 x0 ∧ Hid (x0 = U (st ones (l.take k)))) (fun _ i => l.length - (intOf i).toNat)
  case atStart => exact ⟨0, Nat.zero_le _, rfl, _, rfl, H0⟩
  case round =>
    clear H0
    obtain ⟨k, hk, rfl, y0, rfl, hy⟩ := hrel
    by_cases hlt : k < l.length
    · obtain ⟨ad, rfl, hck⟩ := HB.out.2 k hlt
      have hc1 := byte_hi l[k]
      obtain ⟨c0, hc0⟩ : ∃ c0 : Int, (l[k].toNat : Int) = c0 := ⟨_, rfl⟩
      have hc2 : 0 ≤ c0 := by omega
      rw [hc0] at hck hc1
      have hx : bits .xor .u32 y0 c0 = U (st ones (l.take k) ^^^ z8 l[k]) := by rw [hy.out, ← hc0, U_byte, U_xor]
      obtain ⟨x1, hx1⟩ : ∃ x1, U (Bk 0 (st ones (l.take k) ^^^ z8 l[k])) = x1 := ⟨_, rfl⟩
      simp only [Bk] at hx1
      rw [hx1] at hx
      have HX1 := hid hx1
      clear hx1 hc0
      go_wp2
      go_loop [3, 5] (fun v i => ∃ j : Nat, j ≤ 8 ∧ i = .int .i64 j ∧ ∃ x0 : Int, v = .int .u32 x0 ∧ Hid (x0 = U (Bk j (st ones (l.take k) ^^^ z8 l[k])))) (fun _ i => 8 - (intOf i).toNat)
      case atStart => exact ⟨0, Nat.zero_le _, rfl, _, rfl, HX1.out.symm⟩
      case round =>
        clear HX1 hx hy
        obtain ⟨j, hj, rfl, y, rfl, hy⟩ := hrel
        have y1 : 0 ≤ y := by rw [hy.out]; exact U_lo _
        have y2 : y < 4294967296 := by rw [hy.out]; exact U_hi _
        by_cases hlj : j < 8
        · by_cases hb : y % 2 = 1
          · obtain ⟨x1, hx1⟩ : ∃ x1, bits .xor .u32 (y / 2) 2197175160 = x1 := ⟨_, rfl⟩
            have HX : Hid (x1 = U (Bk (j + 1) (st ones (l.take k) ^^^ z8 l[k]))) := by
              rw [hy.out] at hx1 hb
              rw [bit_odd _ hb] at hx1
              rw [Bk_succ']; exact hx1.symm
            clear hy
            go_wp2
            go_round
            case rel => exact ⟨j + 1, by omega, by go_num, _, rfl, HX⟩
            case measure => simp [intOf]; omega
          · have HX : Hid (y / 2 = U (Bk (j + 1) (st ones (l.take k) ^^^ z8 l[k]))) := by
              rw [hy.out] at hb
              rw [Bk_succ', hy.out]; exact bit_even _ hb
            have hb0 : y % 2 = 0 := by omega
            clear hy hb
            go_wp2
            go_round
            case rel => exact ⟨j + 1, by omega, by go_num, _, rfl, HX⟩
            case measure => simp [intOf]; omega
        · obtain rfl : j = 8 := by omega
          have HX : Hid (y = U (st ones (l.take (k + 1)))) := by rw [take_succ_at hlt]; exact hy.out
          clear hy
          go_wp2
          go_round
          case rel => exact ⟨k + 1, by omega, by go_num, _, rfl, HX⟩
          case measure => simp [intOf]; omega
    · have hx : bits .xor .u32 y0 4294967295 = U (Crc.of l) := by
        rw [hy.out, List.take_of_length_le (by omega), show (4294967295 : Int) = U ones by decide, U_xor, BitVec.xor_comm, ← U_xor, U_not']; rfl
      obtain ⟨z0, hz0⟩ : ∃ z0, U (Crc.of l) = z0 := ⟨_, rfl⟩
      rw [hz0] at hx
      have HZ := hid hz0
      clear hz0 hy
      go_wp2
      go_ret
      exact ⟨ret_u32 HZ.out.symm, rfl⟩

/-- parts in a row, as they lie -/
def Parts (w : World) (P : Option Addr) (ls : List (List UInt8)) : Prop :=
  ls.length ≤ 9223372036854775807 ∧ ∀ i (h : i < ls.length), ∃ pd A c, P = some pd ∧ w.cell? (pd.add i) = some (.slice A ls[i].length c) ∧ Bytes w A ls[i]
theorem take_flat {ls : List (List UInt8)} {k : Nat} (h : k < ls.length) : (ls.take (k + 1)).flatten = (ls.take k).flatten ++ ls[k] := by
  rw [List.take_succ_eq_append_getElem h, List.flatten_append, List.flatten_singleton]
set_option maxHeartbeats 400000 in
set_option maxRecDepth 100000 in
theorem of_any (P : Option Addr) (ls : List (List UInt8)) (cap : Nat) (w : World) (hl : Parts w P ls) (ht : Tab w) :
    Calls Tryd.prog 10 #[.slice P ls.length cap] w fun e w' => e = .returned (.int .u32 (U (Crc.of ls.flatten))) ∧ w = w' := by
  have HB := hid hl
  have hlen := hl.1
  have HT := hid ht
  clear hl ht
  have h0 : (0 : Int) = U (Crc.of (ls.take 0).flatten) := by show _ = U (Crc.of []); decide
  have H0 := hid h0
  clear h0
  go_enter Tryd.func10, Tryd.ntmps10
  go_wp2
  go_loop [3, 8] (fun v i => ∃ k : Nat, k ≤ ls.length ∧ i = .int .i64 k ∧ ∃ x0 : Int, v = .int .u32 x0 ∧ Hid (x0 = U (Crc.of (ls.take k).flatten))) (fun _ i => ls.length - (intOf i).toNat)
  case atStart => exact ⟨0, Nat.zero_le _, rfl, _, rfl, H0⟩
  case round =>
    clear H0
    obtain ⟨k, hk, rfl, y0, rfl, hy⟩ := hrel
    by_cases hlt : k < ls.length
    · obtain ⟨pd, A, c, rfl, hck, hb⟩ := HB.out.2 k hlt
      obtain ⟨n, hn⟩ : ∃ n, ls[k].length = n := ⟨_, rfl⟩
      rw [hn] at hck
      have HN := hid hn
      have HBk := hid hb
      clear hn hb
      go_wp2_with fail
      rw [hy.out, ← HN.out]
      refine (update_any _ _ _ _ _ HBk.out HT.out).mono ?_
      rintro e w' ⟨rfl, rfl⟩
      rw [upd_of, ← take_flat hlt]
      go_wp2
      go_round
      case rel => exact ⟨k + 1, by omega, by go_num, _, rfl, rfl⟩
      case measure => simp [intOf]; omega
    · have hz : y0 = U (Crc.of ls.flatten) := by rw [hy.out, List.take_of_length_le (by omega)]
      have HZ := hid hz
      clear hz hy
      go_wp2
      go_ret
      exact ⟨ret_u32 HZ.out, rfl⟩
end Go.Proofs.YtgkniekggcgdcaaDoor
