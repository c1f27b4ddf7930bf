/- The walk of SumTurned: returns true, and nothing that was there is written. -/
import Derived.Test.YtgkniekggcgdcaaDoorLaws
import Derived.Deep.AppendLies
namespace Go.Proofs.YtgkniekggcgdcaaDoor
open Go.RowKit Crc
attribute [local go_sem] u32_signed

theorem bv_set (l : List UInt8) (k : Nat) (c : UInt8) : (bv l).set k (.int .u8 (c.toNat : Int)) = bv (l.set k c) := by simp [bv, List.map_set]
theorem Row.stored {w : World} {B g n cap : Nat} {l : List UInt8} (h : Row w B (.slice (some ⟨g, 0, none⟩) n cap) l) (hn : n = l.length) (k : Nat) (c : UInt8) :
    Row (w.setCell ⟨g, k, none⟩ (.int .u8 (c.toNat : Int))) B (.slice (some ⟨g, 0, none⟩) n cap) (l.set k c) := by
  subst hn
  have := (World.ownsRow.stored (h : w.ownsRow B 5 1 _ l.length _) k (.int .u8 (c.toNat : Int))).1
  rw [bv_set] at this
  unfold Row
  rw [List.length_set]
  exact this
theorem u8_xor' (a b : UInt8) : bits .xor .u8 (a.toNat : Int) (b.toNat : Int) = ((a ^^^ b).toNat : Int) := by
  rw [u8_xor_nat _ _ a.toNat_lt b.toNat_lt, UInt8.toNat_xor]
theorem le3000 {n : Nat} (h : n ≤ 3000) : decide ((3000 : Int) < (n : Int)) = false := by simp; omega
theorem gt3000 {n : Nat} (h : 3000 < n) : decide ((3000 : Int) < (n : Int)) = true := by simp; omega

set_option maxHeartbeats 1000000 in
set_option maxRecDepth 100000 in
theorem sumTurned_yes (A : Option Addr) (l : List UInt8) (cap : Nat) (k : Nat) (d : UInt8) (w : World) (hA : Bytes w A l) (nA : A = none → cap = 0)
    (ll : l.length ≤ 3000) (hk : k < l.length) (hd : d ≠ 0) (ht : Tab w) :
    Calls Tryd.prog 5 #[.slice A l.length cap, .int .i64 k, .int .u8 d.toNat] w fun e w' => e = .returned (.bool true) ∧ Below w.heap.size w w' := by
  have HT := hid ht
  have HA := hid hA
  have NA := hid nA
  have t1 := le3000 ll
  have t2 : decide ((k : Int) < 0) = false := by simp
  have t3 : decide ((l.length : Int) ≤ (k : Int)) = false := by simp; omega
  have d1 := byte_hi d
  have hx := u8_xor' l[k] d
  have hy := byte_hi l[k]
  have hd0 : (d.toNat : Int) ≠ 0 := fun h => hd (UInt8.toNat.inj (by simpa using h))
  have hne : l[k] ^^^ d ≠ l[k] := fun h => hd (by have := congrArg (l[k] ^^^ ·) h; simpa [← UInt8.xor_assoc] using this)
  obtain ⟨x0, hx0⟩ : ∃ x0 : Int, (l[k].toNat : Int) = x0 := ⟨_, rfl⟩
  obtain ⟨d0, hd0'⟩ : ∃ x0 : Int, (d.toNat : Int) = x0 := ⟨_, rfl⟩
  obtain ⟨x1, hx1⟩ : ∃ x0 : Int, ((l[k] ^^^ d).toNat : Int) = x0 := ⟨_, rfl⟩
  have p0 : 0 ≤ x0 := by omega
  have p1 : 0 ≤ d0 := by omega
  rw [hx0, hd0', hx1] at hx
  rw [hd0'] at d1 hd0 ⊢
  rw [hx0] at hy
  have t4 : (d0 == 0) = false := by simpa using hd0
  have X0 := hid hx0
  have X1 := hid hx1
  have NE := hid hne
  clear ht hA nA hd hx0 hx1 hd0' hne hd0
  go_enter Tryd.func5, Tryd.ntmps5
  go_wp2_with (at_builtin; refine wpList_append_bytes rfl (.tmp 26) (.tmp 27) rfl w.heap.size _ [] rfl (own_empty _ _ (Nat.le_refl _)) A l cap rfl ?hB1 ?n1 ?l1 ?b1 ?_)
  case hB1 => exact HA.out.below (below_new _ _)
  case n1 => exact NA.out
  case l1 => simp; omega
  case b1 => simp
  intro v1 w1 o1 g1
  have b1 : Below w.heap.size w w1 := row_grown (below_new _ _) (by simp) (own_empty w _ (Nat.le_refl _)) g1
  obtain ⟨g, c1, hv1, hgB, hgs⟩ := World.ownsRow.form o1 (by omega)
  rw [hv1] at o1 ⊢
  have hcell := World.ownsRow.cellAt o1 k (by omega)
  have hfr := World.ownsRow.frozenAt o1 k
  rw [show (bv l)[k]? = some (.int .u8 x0) by rw [← X0.out]; simp [bv, hk]] at hcell
  have s1 := b1.size
  have O1 := hid o1
  have B1 := hid b1
  clear o1 g1 b1 hv1
  go_wp2_with fail
  obtain ⟨w2, hw2⟩ : ∃ w2, w1.setCell ⟨g, k, none⟩ (.int .u8 x1) = w2 := ⟨_, rfl⟩
  have s2 : w2.heap.size = w1.heap.size := by rw [← hw2]; simp
  have b2 : Below w.heap.size w w2 := by rw [← hw2]; exact B1.out.setCell hgB _
  have hs2 : w.heap.size ≤ w2.heap.size := by omega
  have y2 : Bytes w2 (some ⟨g, 0, none⟩) (l.set k (l[k] ^^^ d)) := by
    have h1 := Row.stored O1.out rfl k (l[k] ^^^ d)
    rw [X1.out, hw2] at h1
    obtain ⟨A3, c3, e, h2⟩ := row_bytes h1 (by simp; omega)
    simp only [Value.slice.injEq] at e
    rw [← e.1] at h2
    exact h2
  rw [hw2]
  have B2 := hid b2
  have Y2 := hid y2
  clear b2 y2 hw2 hcell hfr hx O1 B1
  obtain ⟨n, hn⟩ : ∃ n, U (Crc.of l) = n := ⟨_, rfl⟩
  obtain ⟨m, hm⟩ : ∃ m, U (Crc.of (l.set k (l[k] ^^^ d))) = m := ⟨_, rfl⟩
  have hmn : (m == n) = false := by
    rw [beq_eq_false_iff_ne, ← hn, ← hm]
    intro e
    exact of_turned l k hk _ NE.out (BitVec.eq_of_toNat_eq (by unfold U at e; omega))
  have hmn' : (m != n) = true := by rw [bne, hmn]; rfl
  have HN := hid hn
  have HM := hid hm
  clear hn hm hmn
  refine (of_any (some ⟨w1.heap.size, 0, none⟩) [l.set k (l[k] ^^^ d)] 1 _ ?hp1 ?ht1).mono ?_
  case hp1 =>
    have := Parts.new1 (t := 22) (c := c1) s2.symm Y2.out
    rw [List.length_set] at this
    exact this
  case ht1 => exact (HT.out.below B2.out).below (below_new _ _)
  rintro e w' ⟨rfl, rfl⟩
  rw [List.flatten_singleton, HM.out]
  go_wp2_with fail
  refine (of_any (some ⟨w1.heap.size + 1, 0, none⟩) [l] 1 _ ?hp2 ?ht2).mono ?_
  case hp2 => exact Parts.new1 (by simp; omega) ((HA.out.below B2.out).below (below_new _ _))
  case ht2 => exact (HT.out.below B2.out).below ((below_new _ _).alloc (by simp) _)
  rintro e w' ⟨rfl, rfl⟩
  rw [List.flatten_singleton, HN.out]
  go_wp2_with fail
  refine (of_any (some ⟨w1.heap.size + 1 + 1, 0, none⟩) [l] 1 _ ?hp3 ?ht3).mono ?_
  case hp3 => exact Parts.new1 (by simp; omega) ((HA.out.below B2.out).below ((below_new _ _).alloc (by simp) _))
  case ht3 => exact (HT.out.below B2.out).below (((below_new _ _).alloc (by simp) _).alloc (by simp; omega) _)
  rintro e w' ⟨rfl, rfl⟩
  rw [List.flatten_singleton, HN.out]
  go_wp2_with fail
  refine (ref_any A l cap _ ?hp4).mono ?_
  case hp4 => exact (HA.out.below B2.out).below (((below_new _ _).alloc (by simp) _).alloc (by simp; omega) _)
  rintro e w' ⟨rfl, rfl⟩
  rw [HN.out]
  go_wp2_with fail
  refine (awake_any _ ?ht5).mono ?_
  case ht5 => exact (HT.out.below B2.out).below (((below_new _ _).alloc (by simp) _).alloc (by simp; omega) _)
  rintro e w' ⟨rfl, hb⟩
  go_wp2
  go_ret
  exact ⟨rfl, below_tr (below_tr B2.out hs2 (((below_new _ _).alloc (by simp) _).alloc (by simp; omega) _)) (by simp; omega) hb⟩

set_option maxHeartbeats 1000000 in
set_option maxRecDepth 100000 in
theorem sumTurned_no (A : Option Addr) (l : List UInt8) (cap : Nat) (k : Int) (d : UInt8) (w : World) (h : 3000 < l.length ∨ k < 0 ∨ (l.length : Int) ≤ k ∨ d = 0) (ht : Tab w) :
    Calls Tryd.prog 5 #[.slice A l.length cap, .int .i64 k, .int .u8 d.toNat] w fun e w' => e = .returned (.bool true) ∧ Below w.heap.size w w' := by
  have HT := hid ht
  clear ht
  by_cases h1 : 3000 < l.length
  · have t1 := gt3000 h1
    clear h
    go_enter Tryd.func5, Tryd.ntmps5
    go_wp2_with fail
    refine (awake_any _ HT.out).mono ?_
    rintro e w' ⟨rfl, hb⟩
    go_wp2
    go_ret
    exact ⟨rfl, hb⟩
  · have t1 := le3000 (Nat.not_lt.1 h1)
    by_cases h2 : k < 0
    · have t2 : decide (k < 0) = true := by simpa using h2
      clear h
      go_enter Tryd.func5, Tryd.ntmps5
      go_wp2_with fail
      refine (awake_any _ HT.out).mono ?_
      rintro e w' ⟨rfl, hb⟩
      go_wp2
      go_ret
      exact ⟨rfl, hb⟩
    · have t2 : decide (k < 0) = false := by simpa using h2
      by_cases h3 : (l.length : Int) ≤ k
      · have t3 : decide ((l.length : Int) ≤ k) = true := by simpa using h3
        clear h
        go_enter Tryd.func5, Tryd.ntmps5
        go_wp2_with fail
        refine (awake_any _ HT.out).mono ?_
        rintro e w' ⟨rfl, hb⟩
        go_wp2
        go_ret
        exact ⟨rfl, hb⟩
      · have t3 : decide ((l.length : Int) ≤ k) = false := by simpa using h3
        obtain rfl : d = 0 := by rcases h with h | h | h | h <;> first | omega | exact h
        clear h
        go_enter Tryd.func5, Tryd.ntmps5
        go_wp2_with fail
        refine (awake_any _ HT.out).mono ?_
        rintro e w' ⟨rfl, hb⟩
        go_wp2
        go_ret
        exact ⟨rfl, hb⟩
end Go.Proofs.YtgkniekggcgdcaaDoor
