/- The walk of SumResidue: returns true, and nothing that was there is written. -/
import Derived.Test.YtgkniekggcgdcaaDoorLaws2
import Derived.Deep.RegionWith
import Derived.Deep.OwnRows
import Derived.OpenShut
import Derived.Handy
namespace Go.Proofs.YtgkniekggcgdcaaDoor
open Go.RowKit Crc
attribute [local go_sem] u32_signed

theorem parts_mk2 {W : World} {q : Nat} {A A' : Option Addr} {c c' n n' : Nat} {l m : List UInt8} (h0 : W.cell? ⟨q, 0, none⟩ = some (.slice A n c)) (h1 : W.cell? ⟨q, 1, none⟩ = some (.slice A' n' c')) (hn : n = l.length) (hn' : n' = m.length)
    (hl : Bytes W A l) (hm : Bytes W A' m) : Parts W (some ⟨q, 0, none⟩) [l, m] := by
  subst hn hn'
  refine ⟨by simp, fun i hi => ?_⟩
  have : i = 0 ∨ i = 1 := by simp at hi; omega
  rcases this with rfl | rfl
  · exact ⟨_, A, c, rfl, by rw [add_plain']; exact h0, hl⟩
  · exact ⟨_, A', c', rfl, by rw [add_plain']; exact h1, hm⟩
theorem bytes_mk4 {W : World} {q : Nat} {a b c d : UInt8} (h0 : W.cell? ⟨q, 0, none⟩ = some (.int .u8 (a.toNat : Int))) (h1 : W.cell? ⟨q, 1, none⟩ = some (.int .u8 (b.toNat : Int))) (h2 : W.cell? ⟨q, 2, none⟩ = some (.int .u8 (c.toNat : Int)))
    (h3 : W.cell? ⟨q, 3, none⟩ = some (.int .u8 (d.toNat : Int))) : Bytes W (some ⟨q, 0, none⟩) [a, b, c, d] := by
  refine ⟨by simp, fun i hi => ⟨_, rfl, ?_⟩⟩
  have : i = 0 ∨ i = 1 ∨ i = 2 ∨ i = 3 := by simp at hi; omega
  rw [add_plain']
  rcases this with rfl | rfl | rfl | rfl
  · exact h0
  · exact h1
  · exact h2
  · exact h3

/-- the four bytes as the walk comes to them -/
theorem le4_nums (x : W) : IntKind.u8.wrap (U x) = ((⟨x.setWidth 8⟩ : UInt8).toNat : Int) ∧ IntKind.u8.wrap (U x / 256) = ((⟨(x >>> 8).setWidth 8⟩ : UInt8).toNat : Int) ∧
    IntKind.u8.wrap (U x / 65536) = ((⟨(x >>> 16).setWidth 8⟩ : UInt8).toNat : Int) ∧ IntKind.u8.wrap (U x / 16777216) = ((⟨(x >>> 24).setWidth 8⟩ : UInt8).toNat : Int) := by
  have e (y : W) : ((⟨y.setWidth 8⟩ : UInt8).toNat : Int) = U y % 256 := by
    show ((BitVec.setWidth 8 y).toNat : Int) = _
    rw [BitVec.toNat_setWidth]; unfold U; omega
  have s (k : Nat) : U (x >>> k) = U x / ((2 ^ k : Nat) : Int) := by
    unfold U; rw [BitVec.toNat_ushiftRight, Nat.shiftRight_eq_div_pow]; rfl
  rw [e, e, e, e, s, s, s, IntKind.wrap_u8, IntKind.wrap_u8, IntKind.wrap_u8, IntKind.wrap_u8]
  exact ⟨rfl, rfl, rfl, rfl⟩

set_option maxHeartbeats 1000000 in
set_option maxRecDepth 100000 in
theorem sumResidue_yes (A : Option Addr) (l : List UInt8) (c : Nat) (w : World) (hA : Bytes w A l) (ll : l.length ≤ 3000) (ht : Tab w) :
    Calls Tryd.prog 7 #[.slice A l.length c] w fun e w' => e = .returned (.bool true) ∧ Below w.heap.size w w' := by
  have HT := hid ht
  have HA := hid hA
  have t1 := le3000 ll
  have n1 := U_lo (Crc.of l)
  have n2 := U_hi (Crc.of l)
  obtain ⟨n, hn⟩ : ∃ n, U (Crc.of l) = n := ⟨_, rfl⟩
  rw [hn] at n1 n2
  have HN := hid hn
  have hmk : ∀ w : World, (Instr.makeSlice 22 (.int .i64 4) (.int .i64 4)).run Tryd.prog w = .ok (.slice (some ⟨w.heap.size, 0, none⟩) 4 4) (w.alloc (.cells #[.int .u8 0, .int .u8 0, .int .u8 0, .int .u8 0] 5)) := fun _ => by kernel_rfl
  have hR := congrArg U (of_residue l)
  obtain ⟨r, hr⟩ : ∃ r, U (Crc.of [0, 0, 0, 0]) = r := ⟨_, rfl⟩
  rw [hr] at hR
  have hle : le4 (Crc.of l) = [⟨(Crc.of l).setWidth 8⟩, ⟨(Crc.of l >>> 8).setWidth 8⟩, ⟨(Crc.of l >>> 16).setWidth 8⟩, ⟨(Crc.of l >>> 24).setWidth 8⟩] := rfl
  obtain ⟨h0, h1, h2, h3⟩ := le4_nums (Crc.of l)
  rw [hn] at h0 h1 h2 h3
  rw [hle] at hR
  generalize (⟨(Crc.of l).setWidth 8⟩ : UInt8) = a0 at *
  generalize (⟨(Crc.of l >>> 8).setWidth 8⟩ : UInt8) = a1 at *
  generalize (⟨(Crc.of l >>> 16).setWidth 8⟩ : UInt8) = a2 at *
  generalize (⟨(Crc.of l >>> 24).setWidth 8⟩ : UInt8) = a3 at *
  obtain ⟨z0, hz0⟩ : ∃ z : Int, (a0.toNat : Int) = z := ⟨_, rfl⟩
  obtain ⟨z1, hz1⟩ : ∃ z : Int, (a1.toNat : Int) = z := ⟨_, rfl⟩
  obtain ⟨z2, hz2⟩ : ∃ z : Int, (a2.toNat : Int) = z := ⟨_, rfl⟩
  obtain ⟨z3, hz3⟩ : ∃ z : Int, (a3.toNat : Int) = z := ⟨_, rfl⟩
  rw [hz0] at h0
  rw [hz1] at h1
  rw [hz2] at h2
  rw [hz3] at h3
  have Z0 := hid hz0
  have Z1 := hid hz1
  have Z2 := hid hz2
  have Z3 := hid hz3
  have HRF : U (Crc.of [l, [a0, a1, a2, a3]].flatten) = r := by rw [← hR]; simp
  have HRF := hid HRF
  have HR' := hid hr
  clear ht hA hn hz0 hz1 hz2 hz3 hle hR hr
  go_enter Tryd.func7, Tryd.ntmps7
  go_wp2_with fail
  refine (of_any (some ⟨w.heap.size, 0, none⟩) [l] 1 _ (Parts.new1 rfl HA.out) ?ht1).mono ?_
  case ht1 => exact HT.out.below (below_new _ _)
  rintro e w' ⟨rfl, rfl⟩
  rw [List.flatten_singleton, HN.out]
  obtain ⟨w1, hw1⟩ : ∃ w1, w.alloc (.cells #[.slice A l.length c] 22) = w1 := ⟨_, rfl⟩
  have b1 : Below w.heap.size w w1 := by rw [← hw1]; exact below_new _ _
  rw [hw1]
  have B1 := hid b1
  have S1 := hid b1.size
  have A1 := hid (HA.out.below b1)
  have T1 := hid (HT.out.below b1)
  clear hw1 b1 HA HT
  go_wp2_with fail
  go_region_with (first
    | (go_at_call 10
       refine (of_any _ [l, [a0, a1, a2, a3]] _ _ ?_ ?_).mono ?_
       · refine parts_mk2 (A := A) (A' := some ⟨w1.heap.size, 0, none⟩) (n := l.length) (c := c) (n' := 4) (c' := 4) ?_ ?_ rfl rfl ?_ ?_
         · go_cell
         · go_cell
         · exact A1.out.below (by go_grown)
         · refine bytes_mk4 ?_ ?_ ?_ ?_
           · rw [Z0.out]; go_cell
           · rw [Z1.out]; go_cell
           · rw [Z2.out]; go_cell
           · rw [Z3.out]; go_cell
       · exact T1.out.below (by go_grown)
       rintro e w' ⟨rfl, rfl⟩
       rw [HRF.out])
    | (go_at_call 10
       refine (of_any _ [l, [a0, a1, a2, a3]] _ _ ?_ ?_).mono ?_
       · refine parts_mk2 (A := A) (A' := some ⟨w1.heap.size + 1, 0, none⟩) (n := l.length) (c := c) (n' := 4) (c' := 4) ?_ ?_ rfl rfl ?_ ?_
         · go_cell
         · go_cell
         · exact A1.out.below (by go_grown)
         · refine bytes_mk4 ?_ ?_ ?_ ?_
           · rw [Z0.out]; go_cell
           · rw [Z1.out]; go_cell
           · rw [Z2.out]; go_cell
           · rw [Z3.out]; go_cell
       · exact T1.out.below (by go_grown)
       rintro e w' ⟨rfl, rfl⟩
       rw [HRF.out])
    | (go_at_call 11
       refine (ref_any _ [0, 0, 0, 0] _ _ ?_).mono ?_
       · refine bytes_mk4 ?_ ?_ ?_ ?_
         · go_cell
         · go_cell
         · go_cell
         · go_cell
       rintro e w' ⟨rfl, rfl⟩
       rw [HR'.out])
    | (go_at_call 9
       refine (awake_any _ ?_).mono ?_
       · exact T1.out.below (by go_grown)
       rintro e w' ⟨rfl, hb⟩
       have hb' : Hid (Below w.heap.size w w') := hid (below_tr (below_tr B1.out S1.out (by go_grown)) (by have := S1.out; simp; omega) hb)
       clear hb))
  all_goals go_wp2
  all_goals go_ret
  all_goals exact ⟨rfl, Hid.out (by assumption)⟩

set_option maxHeartbeats 1000000 in
set_option maxRecDepth 100000 in
theorem sumResidue_no (A : Option Addr) (l : List UInt8) (c : Nat) (w : World) (h : 3000 < l.length) (ht : Tab w) :
    Calls Tryd.prog 7 #[.slice A l.length c] w fun e w' => e = .returned (.bool true) ∧ Below w.heap.size w w' := by
  have HT := hid ht
  have t1 := gt3000 h
  clear ht
  go_enter Tryd.func7, Tryd.ntmps7
  go_wp2_with fail
  refine (awake_any _ HT.out).mono ?_
  rintro e w' ⟨rfl, hb⟩
  go_wp2
  go_ret
  exact ⟨rfl, hb⟩
end Go.Proofs.YtgkniekggcgdcaaDoor
