/- The walks of ring.At and of the reference's At, of ints; what the document fixes of three things. -/
import Derived.Test.YtlekhibddmbjnaaPut
import Derived.IntWalk
namespace Go.Proofs.Ytlekhibddmbjnaa
open Go.RowKit

/-- the thing of an age -/
def aged (room : Nat) (xs : List Int) (age : Int) : Option Int := if 0 ≤ age ∧ age < xs.length ∧ age < room then xs[xs.length - 1 - age.toNat]? else none
set_option maxHeartbeats 400000 in
set_option maxRecDepth 100000 in
theorem atY (R m room g n c k a : Nat) (o : Int) (w : World) (c0 : w.cell? ⟨R, 0, none⟩ = some (.slice (some ⟨g, 0, none⟩) n c)) (c1 : w.cell? ⟨R, 1, none⟩ = some (.int .i64 room)) (c2 : w.cell? ⟨R, 2, none⟩ = some (.int .i64 m))
    (hm : m ≤ 1000000) (hr : room ≤ 65536) (hr0 : 0 < room) (ha : a < n) (hn : n ≤ m) (hk : k = (m - 1 - a) % room) (hkn : k < n) (ck : w.cell? ⟨g, k, none⟩ = some (.int .i64 o)) :
    Calls Try.prog 15 #[.pointer (some ⟨R, 0, none⟩), .int .i64 a] w fun e w' => e = .returned (.tuple #[.int .i64 o, .bool true]) ∧ Calm w w' := by
  have w1 : IntKind.i64.wrap ((m : Int) - 1) = (m : Int) - 1 := IntWalk.i64_in _ (by omega)
  have w2 : IntKind.i64.wrap ((m : Int) - 1 - (a : Int)) = (m : Int) - 1 - (a : Int) := IntWalk.i64_in _ (by omega)
  have w3 : ((m : Int) - 1 - (a : Int)).tmod (room : Int) = (k : Int) := by
    rw [show (m : Int) - 1 - (a : Int) = ((m - 1 - a : Nat) : Int) by omega, hk]; rfl
  have w4 : ((m : Int) - 1 - (a : Int)) % (room : Int) = (k : Int) := by
    rw [show (m : Int) - 1 - (a : Int) = ((m - 1 - a : Nat) : Int) by omega, hk]; rfl
  have w5 : (0 : Int) ≤ (m : Int) - 1 - (a : Int) := by omega
  have hr1 : ((room : Int) == 0) = false := by simp; omega
  have t1 : decide ((a : Int) < 0) = false := by simp
  have t2 : decide ((n : Int) ≤ (a : Int)) = false := by simp; omega
  clear hk
  go_enter Try.func15, Try.ntmps15
  go_wp2
  go_quiet (fail)
  go_wp2
  go_ret2
  exact ⟨rfl, ⟨rfl, rfl, rfl, rfl⟩⟩
set_option maxHeartbeats 400000 in
set_option maxRecDepth 100000 in
theorem atN (R n c : Nat) (A : Option Addr) (a : Int) (w : World) (c0 : w.cell? ⟨R, 0, none⟩ = some (.slice A n c)) (ha : a < 0 ∨ (n : Int) ≤ a) :
    Calls Try.prog 15 #[.pointer (some ⟨R, 0, none⟩), .int .i64 a] w fun e w' => e = .returned (.tuple #[.int .i64 0, .bool false]) ∧ Calm w w' := by
  by_cases h : a < 0
  · have t1 : decide (a < 0) = true := by simpa using h
    clear ha
    go_enter Try.func15, Try.ntmps15
    go_wp2
    go_ret2
    exact ⟨rfl, Calm.refl _⟩
  · have t1 : decide (a < 0) = false := by simpa using h
    have h2 : (n : Int) ≤ a := by omega
    have t2 : decide ((n : Int) ≤ a) = true := by simpa using h2
    clear ha
    go_enter Try.func15, Try.ntmps15
    go_wp2
    go_ret2
    exact ⟨rfl, Calm.refl _⟩
def AtPost (w : World) (room : Nat) (xs : List Int) (age : Int) (e : Ending) (w' : World) : Prop := e = .returned (told (aged room xs age)) ∧ Calm w w'
theorem at_any {B : Nat} {w : World} {R : Nat} {v : Value} {room : Nat} {xs : List Int} (h : IsRing 52 3 (Value.int .i64) B w R v room xs) (age : Int) (hr : room ≤ 65536) (hm : xs.length ≤ 1000000) :
    Calls Try.prog 15 #[.pointer (some ⟨R, 0, none⟩), .int .i64 age] w (AtPost w room xs age) := by
  have hl := Plain.ring_length room xs
  by_cases ha : 0 ≤ age ∧ age < xs.length ∧ age < room
  · obtain ⟨a, rfl⟩ := Int.eq_ofNat_of_zero_le ha.1
    have haL : a < (Plain.ring room xs).length := by omega
    obtain ⟨g, cap, hv, _, _⟩ := h.row.form (by omega)
    subst hv
    have hage := Plain.ring_age room xs a haL
    have hkl : (xs.length - 1 - a) % room < (Plain.ring room xs).length := by
      rcases Nat.lt_or_ge ((xs.length - 1 - a) % room) (Plain.ring room xs).length with h' | h'
      · exact h'
      · rw [List.getElem?_eq_none h', List.getElem?_eq_getElem (by omega)] at hage; cases hage
    have hck := h.row.cellAt ((xs.length - 1 - a) % room) (by omega)
    rw [List.getElem?_map, hage, List.getElem?_eq_getElem (by omega)] at hck
    refine (atY R xs.length room g _ cap _ a _ w h.c0 h.c1 h.c2 hm hr (by omega) haL (by omega) rfl hkl hck).mono ?_
    rintro e w' ⟨rfl, hc⟩
    refine ⟨?_, hc⟩
    unfold aged
    rw [if_pos ha, Int.toNat_natCast, List.getElem?_eq_getElem (by omega)]; rfl
  · obtain ⟨A, c, hv⟩ := h.shape
    subst hv
    refine (atN R _ c A age w h.c0 (by omega)).mono ?_
    rintro e w' ⟨rfl, hc⟩
    refine ⟨?_, hc⟩
    unfold aged
    rw [if_neg ha]; rfl

/-! the reference -/
set_option maxHeartbeats 400000 in
set_option maxRecDepth 100000 in
theorem refY (A : Addr) (n c a : Nat) (room o : Int) (w : World) (hm : n ≤ 1000000) (ha : a < n) (har : (a : Int) < room) (ck : w.cell? (A.add (n - 1 - a)) = some (.int .i64 o)) :
    Calls Try.prog 16 #[.slice (some A) n c, .int .i64 room, .int .i64 a] w fun e w' => e = .returned (.tuple #[.int .i64 o, .bool true]) ∧ Calm w w' := by
  have t1 : decide ((a : Int) < 0) = false := by simp
  have t2 : decide ((n : Int) ≤ (a : Int)) = false := by simp; omega
  have t3 : decide (room ≤ (a : Int)) = false := by simp; omega
  obtain ⟨k, hk⟩ : ∃ k, n - 1 - a = k := ⟨_, rfl⟩
  have e1 : (n : Int) - 1 - (a : Int) = (k : Int) := by omega
  rw [hk] at ck
  have h1 : k < n := by omega
  clear hk
  go_enter Try.func16, Try.ntmps16
  go_wp2
  go_ret2
  exact ⟨rfl, Calm.refl _⟩
set_option maxHeartbeats 400000 in
set_option maxRecDepth 100000 in
theorem refN (A : Option Addr) (n c : Nat) (a room : Int) (w : World) (h : a < 0 ∨ (n : Int) ≤ a ∨ room ≤ a) :
    Calls Try.prog 16 #[.slice A n c, .int .i64 room, .int .i64 a] w fun e w' => e = .returned (.tuple #[.int .i64 0, .bool false]) ∧ Calm w w' := by
  by_cases h1 : a < 0
  · have t1 : decide (a < 0) = true := by simpa using h1
    clear h
    go_enter Try.func16, Try.ntmps16
    go_wp2
    go_ret2
    exact ⟨rfl, Calm.refl _⟩
  · have t1 : decide (a < 0) = false := by simpa using h1
    by_cases h2 : (n : Int) ≤ a
    · have t2 : decide ((n : Int) ≤ a) = true := by simpa using h2
      clear h
      go_enter Try.func16, Try.ntmps16
      go_wp2
      go_ret2
      exact ⟨rfl, Calm.refl _⟩
    · have t2 : decide ((n : Int) ≤ a) = false := by simpa using h2
      have h3 : room ≤ a := by omega
      have t3 : decide (room ≤ a) = true := by simpa using h3
      clear h
      go_enter Try.func16, Try.ntmps16
      go_wp2
      go_ret2
      exact ⟨rfl, Calm.refl _⟩
theorem ref_any {w : World} {A : Option Addr} {xs : List Int} (h : Reads w A (xs.map (Value.int .i64))) (c room : Nat) (age : Int) (hm : xs.length ≤ 1000000) :
    Calls Try.prog 16 #[.slice A xs.length c, .int .i64 room, .int .i64 age] w (AtPost w room xs age) := by
  by_cases ha : 0 ≤ age ∧ age < xs.length ∧ age < room
  · obtain ⟨a, rfl⟩ := Int.eq_ofNat_of_zero_le ha.1
    have hlt : xs.length - 1 - a < xs.length := by omega
    obtain ⟨ad, rfl, hc⟩ := h.2 (xs.length - 1 - a) (by simpa using hlt)
    rw [List.getElem_map] at hc
    refine (refY ad xs.length c a room _ w hm (by omega) (by omega) hc).mono ?_
    rintro e w' ⟨rfl, hc⟩
    refine ⟨?_, hc⟩
    unfold aged
    rw [if_pos ha, Int.toNat_natCast, List.getElem?_eq_getElem hlt]; rfl
  · refine (refN A xs.length c age room w (by omega)).mono ?_
    rintro e w' ⟨rfl, hc⟩
    refine ⟨?_, hc⟩
    unfold aged
    rw [if_neg ha]; rfl

/-! what the document fixes of three things -/
set_option maxHeartbeats 800000 in
set_option maxRecDepth 100000 in
theorem awake_any (w : World) : Calls Try.prog 11 #[] w fun e w' => e = .returned (.bool true) ∧ Below w.heap.size w w' := by
  go_enter Try.func11, Try.ntmps11
  go_wp2_with fail
  refine (new_yes 2 w (by decide)).mono ?_
  rintro e w0 ⟨rfl, hw0⟩
  have r0 := ring_new w.heap.size w 2 (Nat.le_refl _)
  rw [← hw0] at r0
  have b0 : Below w.heap.size w w0 := by rw [hw0]; exact below_new _ _
  have R0 := hid r0
  have B0 := hid b0
  clear r0 b0 hw0
  go_wp2_with fail
  refine (put_any R0.out 1 (by decide) (by decide)).mono ?_
  rintro e w1 ⟨rfl, v1, r1, t1, f1⟩
  have B1 := hid (t1.below B0.out B0.out.size R0.out.feet_ge)
  have R1 : Hid (IsRing 52 3 (Value.int .i64) w.heap.size w1 w.heap.size v1 2 [1]) := hid r1
  clear r1 t1 f1 B0 R0
  rw [show told (Plain.out 2 ([] : List Int).length (Plain.ring 2 []) 1) = .tuple #[.int .i64 0, .bool false] from rfl]
  go_wp2_with fail
  refine (put_any R1.out 2 (by decide) (by decide)).mono ?_
  rintro e w2 ⟨rfl, v2, r2, t2, f2⟩
  have B2 := hid (t2.below B1.out B1.out.size R1.out.feet_ge)
  have R2 : Hid (IsRing 52 3 (Value.int .i64) w.heap.size w2 w.heap.size v2 2 [1, 2]) := hid r2
  clear r2 t2 f2 B1 R1
  rw [show told (Plain.out 2 [(1 : Int)].length (Plain.ring 2 [1]) 2) = .tuple #[.int .i64 0, .bool false] from rfl]
  go_wp2_with fail
  refine (put_any R2.out 3 (by decide) (by decide)).mono ?_
  rintro e w3 ⟨rfl, v3, r3, t3, f3⟩
  have B3 := hid (t3.below B2.out B2.out.size R2.out.feet_ge)
  have R3 : Hid (IsRing 52 3 (Value.int .i64) w.heap.size w3 w.heap.size v3 2 [1, 2, 3]) := hid r3
  clear r3 t3 f3 B2 R2
  rw [show told (Plain.out 2 [(1 : Int), 2].length (Plain.ring 2 [1, 2]) 3) = .tuple #[.int .i64 1, .bool true] from rfl]
  go_wp2_with fail
  refine (at_any R3.out 1 (by decide) (by decide)).mono ?_
  rintro e w4 ⟨rfl, h4⟩
  have B4 := hid (B3.out.trans (h4.below _))
  have R4 := hid (R3.out.calm h4)
  clear h4 B3 R3
  rw [show told (aged 2 [1, 2, 3] 1) = .tuple #[.int .i64 2, .bool true] from rfl]
  go_wp2_with fail
  refine (len_any R4.out).mono ?_
  rintro e w5 ⟨rfl, rfl⟩
  go_wp2_with fail
  refine (many_any R4.out).mono ?_
  rintro e w5 ⟨rfl, rfl⟩
  go_wp2_with fail
  refine (room_any R4.out).mono ?_
  rintro e w5 ⟨rfl, rfl⟩
  go_wp2
  go_ret
  exact ⟨rfl, B4.out⟩
end Go.Proofs.Ytlekhibddmbjnaa
