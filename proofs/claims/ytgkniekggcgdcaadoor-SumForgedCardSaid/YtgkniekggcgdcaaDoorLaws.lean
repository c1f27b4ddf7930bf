/- The walks of the laws of the sum: each returns true, and nothing that was there is written. -/
import Derived.Test.YtgkniekggcgdcaaDoorBase
import Derived.Lib.SlBytesConst
namespace Go.Proofs.YtgkniekggcgdcaaDoor
open Go.RowKit Crc
attribute [local go_sem] u32_signed

def nine : List UInt8 := [49, 50, 51, 52, 53, 54, 55, 56, 57]
theorem of_nine : U (Crc.of [nine].flatten) = 3808858755 := by decide +kernel
theorem of_none : U (Crc.of ([] : List (List UInt8)).flatten) = 0 := by decide +kernel
set_option maxHeartbeats 400000 in
set_option maxRecDepth 100000 in
theorem awake_any (w : World) (ht : Tab w) : Calls Tryd.prog 9 #[] w fun e w' => e = .returned (.bool true) ∧ Below w.heap.size w w' := by
  have HT := hid ht
  clear ht
  have kc := fun (w : World) (C : Array Value) (n c : Nat) => Lib.run_convert_bytes_const (P := Tryd.prog) w 22 5 C n c Tryd.underlying22 Tryd.underlying5
  go_enter Tryd.func9, Tryd.ntmps9
  go_wp2_with fail
  refine (of_any (some ⟨w.heap.size + 1, 0, none⟩) [nine] 1 _ ?hp1 ?ht1).mono ?_
  case hp1 => exact Parts.new1 (l := nine) (by simp) (Bytes.new rfl rfl (by decide))
  case ht1 => exact HT.out.below ((below_new _ _).alloc (by simp) _)
  rintro e w' ⟨rfl, rfl⟩
  rw [of_nine]
  go_wp2_with fail
  refine (of_any none [] 0 _ (Parts.none _) ?ht2).mono ?_
  case ht2 => exact HT.out.below ((below_new _ _).alloc (by simp) _)
  rintro e w' ⟨rfl, rfl⟩
  rw [of_none]
  go_wp2
  go_ret
  exact ⟨rfl, (below_new _ _).alloc (by simp) _⟩

set_option maxHeartbeats 400000 in
set_option maxRecDepth 100000 in
theorem sumOf_any (A : Option Addr) (l : List UInt8) (c : Nat) (w : World) (hl : Bytes w A l) (ht : Tab w) :
    Calls Tryd.prog 3 #[.slice A l.length c] w fun e w' => e = .returned (.bool true) ∧ Below w.heap.size w w' := by
  have HT := hid ht
  have HB := hid hl
  clear ht hl
  by_cases h : 3000 < l.length
  · go_enter Tryd.func3, Tryd.ntmps3
    go_wp2_with fail
    refine (awake_any _ HT.out).mono ?_
    rintro e w' ⟨rfl, hb⟩
    go_wp2
    go_ret
    exact ⟨rfl, hb⟩
  · obtain ⟨n, hn⟩ : ∃ n, U (Crc.of l) = n := ⟨_, rfl⟩
    have HN := hid hn
    clear hn
    go_enter Tryd.func3, Tryd.ntmps3
    go_wp2_with fail
    refine (of_any (some ⟨w.heap.size, 0, none⟩) [l] 1 _ (Parts.new1 rfl HB.out) ?ht1).mono ?_
    case ht1 => exact HT.out.below (below_new _ _)
    rintro e w' ⟨rfl, rfl⟩
    rw [List.flatten_singleton, HN.out]
    go_wp2_with fail
    refine (ref_any A l c _ (HB.out.below (below_new _ _))).mono ?_
    rintro e w' ⟨rfl, rfl⟩
    rw [HN.out]
    go_wp2_with fail
    refine (awake_any _ (HT.out.below (below_new _ _))).mono ?_
    rintro e w' ⟨rfl, hb⟩
    go_wp2
    go_ret
    exact ⟨rfl, below_tr (below_new _ _) (by simp) hb⟩

theorem le_of {n : Nat} (h : n ≤ 1000) : decide ((1000 : Int) < (n : Int)) = false := by simp; omega
theorem le_of' {n : Nat} (h : n ≤ 3000) : decide ((3000 : Int) < (n : Int)) = false := by simp; omega
set_option maxHeartbeats 1000000 in
set_option maxRecDepth 100000 in
theorem sumParts_yes (A B C : Option Addr) (a b c : List UInt8) (ca cb cc : Nat) (w : World) (ha : Bytes w A a) (hb : Bytes w B b) (hc : Bytes w C c) (na : A = none → ca = 0) (nb : B = none → cb = 0) (nc : C = none → cc = 0)
    (la : a.length ≤ 1000) (lb : b.length ≤ 1000) (lc : c.length ≤ 1000) (ht : Tab w) :
    Calls Tryd.prog 4 #[.slice A a.length ca, .slice B b.length cb, .slice C c.length cc] w fun e w' => e = .returned (.bool true) ∧ Below w.heap.size w w' := by
  have HT := hid ht
  have HA := hid ha
  have HB := hid hb
  have HC := hid hc
  have NA := hid na
  have NB := hid nb
  have NC := hid nc
  clear ht ha hb hc na nb nc
  have t1 := le_of la
  have t2 := le_of lb
  have t3 := le_of lc
  go_enter Tryd.func4, Tryd.ntmps4
  go_wp2_with (at_builtin; refine wpList_append_bytes rfl (.tmp 23) (.tmp 24) rfl w.heap.size _ [] rfl (own_empty _ _ (Nat.le_refl _)) A a ca rfl ?hB1 ?n1 ?l1 ?b1 ?_)
  case hB1 => exact HA.out.below (below_new _ _)
  case n1 => exact NA.out
  case l1 => simp; omega
  case b1 => simp
  intro v1 w1 o1 g1
  have b1 : Below w.heap.size w w1 := row_grown (below_new _ _) (by simp) (own_empty w _ (Nat.le_refl _)) g1
  have O1 := hid o1
  have B1 := hid b1
  clear o1 g1 b1
  go_wp2_with (at_builtin; refine wpList_append_bytes rfl (.tmp 25) (.tmp 26) rfl w.heap.size v1 a rfl O1.out B b cb rfl ?hB2 ?n2 ?l2 ?b2 ?_)
  case hB2 => exact HB.out.below B1.out
  case n2 => exact NB.out
  case l2 => omega
  case b2 => exact B1.out.size
  intro v2 w2 o2 g2
  have b2 : Below w.heap.size w w2 := row_grown B1.out B1.out.size O1.out g2
  have O2 := hid o2
  have B2 := hid b2
  clear o2 g2 b2
  go_wp2_with (at_builtin; refine wpList_append_bytes rfl (.tmp 27) (.tmp 28) rfl w.heap.size v2 (a ++ b) rfl O2.out C c cc rfl ?hB3 ?n3 ?l3 ?b3 ?_)
  case hB3 => exact HC.out.below B2.out
  case n3 => exact NC.out
  case l3 => simp; omega
  case b3 => exact B2.out.size
  intro v3 w3 o3 g3
  have b3 : Below w.heap.size w w3 := row_grown B2.out B2.out.size O2.out g3
  obtain ⟨L, hL⟩ : ∃ L, a ++ (b ++ c) = L := ⟨_, rfl⟩
  have lL : L.length ≤ 3000 := by rw [← hL]; simp; omega
  rw [hL] at o3
  obtain ⟨A3, c3, hv3, y3⟩ := row_bytes o3 (by omega)
  rw [hv3]
  obtain ⟨n, hn⟩ : ∃ n, U (Crc.of L) = n := ⟨_, rfl⟩
  have HL := hid hL
  have s3 := b3.size
  have Y3 := hid y3
  have B3 := hid b3
  have HN := hid hn
  clear o3 g3 b3 y3 O1 O2 B1 B2 hn hv3 hL
  go_wp2_with fail
  refine (ref_any A3 L c3 _ Y3.out).mono ?_
  rintro e w' ⟨rfl, rfl⟩
  rw [HN.out]
  go_wp2_with fail
  refine (of_any (some ⟨w3.heap.size, 0, none⟩) [a, b, c] 3 _ (Parts.new3 rfl (HA.out.below B3.out) (HB.out.below B3.out) (HC.out.below B3.out)) ?ht1).mono ?_
  case ht1 => exact (HT.out.below B3.out).below (below_new _ _)
  rintro e w' ⟨rfl, rfl⟩
  rw [show U (Crc.of [a, b, c].flatten) = n by rw [← HN.out, ← HL.out]; simp]
  go_wp2_with fail
  refine (of_any (some ⟨w3.heap.size + 1, 0, none⟩) [a, b] 2 _ ?hp2 ?ht2).mono ?_
  case hp2 => exact Parts.new2 (by simp) ((HA.out.below B3.out).below (below_new _ _)) ((HB.out.below B3.out).below (below_new _ _))
  case ht2 => exact (HT.out.below B3.out).below ((below_new _ _).alloc (by simp) _)
  rintro e w' ⟨rfl, rfl⟩
  go_wp2_with fail
  refine (update_any (Crc.of (a ++ b)) C c cc _ ?hp3 ?ht3).mono ?_
  case hp3 => exact (HC.out.below B3.out).below ((below_new _ _).alloc (by simp) _)
  case ht3 => exact (HT.out.below B3.out).below ((below_new _ _).alloc (by simp) _)
  rintro e w' ⟨rfl, rfl⟩
  rw [upd_of, show U (Crc.of (a ++ b ++ c)) = n by rw [← HN.out, ← HL.out]; simp]
  go_wp2_with fail
  rw [show (0 : Int) = U 0#32 by decide]
  refine (update_any 0#32 A3 L c3 _ ?hp4 ?ht4).mono ?_
  case hp4 => exact Y3.out.below ((below_new _ _).alloc (by simp) _)
  case ht4 => exact (HT.out.below B3.out).below ((below_new _ _).alloc (by simp) _)
  rintro e w' ⟨rfl, rfl⟩
  rw [upd_zero, HN.out]
  go_wp2_with fail
  refine (awake_any _ ?ht5).mono ?_
  case ht5 => exact (HT.out.below B3.out).below ((below_new _ _).alloc (by simp) _)
  rintro e w' ⟨rfl, hb⟩
  go_wp2
  go_ret
  exact ⟨rfl, below_tr (below_tr B3.out s3 ((below_new _ _).alloc (by simp) _)) (by simp; omega) hb⟩

set_option maxHeartbeats 1000000 in
set_option maxRecDepth 100000 in
theorem sumParts_no (A B C : Option Addr) (a b c : List UInt8) (ca cb cc : Nat) (w : World) (h : 1000 < a.length ∨ 1000 < b.length ∨ 1000 < c.length) (ht : Tab w) :
    Calls Tryd.prog 4 #[.slice A a.length ca, .slice B b.length cb, .slice C c.length cc] w fun e w' => e = .returned (.bool true) ∧ Below w.heap.size w w' := by
  have HT := hid ht
  clear ht
  by_cases h1 : 1000 < a.length
  · clear h
    go_enter Tryd.func4, Tryd.ntmps4
    go_wp2_with fail
    refine (awake_any _ HT.out).mono ?_
    rintro e w' ⟨rfl, hb⟩
    go_wp2
    go_ret
    exact ⟨rfl, hb⟩
  · have t1 := le_of (Nat.not_lt.1 h1)
    by_cases h2 : 1000 < b.length
    · clear h
      go_enter Tryd.func4, Tryd.ntmps4
      go_wp2_with fail
      refine (awake_any _ HT.out).mono ?_
      rintro e w' ⟨rfl, hb⟩
      go_wp2
      go_ret
      exact ⟨rfl, hb⟩
    · have t2 := le_of (Nat.not_lt.1 h2)
      have h3 : 1000 < c.length := by omega
      clear h
      go_enter Tryd.func4, Tryd.ntmps4
      go_wp2_with fail
      refine (awake_any _ HT.out).mono ?_
      rintro e w' ⟨rfl, hb⟩
      go_wp2
      go_ret
      exact ⟨rfl, hb⟩
end Go.Proofs.YtgkniekggcgdcaaDoor
