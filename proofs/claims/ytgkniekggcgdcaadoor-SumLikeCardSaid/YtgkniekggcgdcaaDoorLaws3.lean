/- The walk of SumLike: returns true, and nothing that was there is written. -/
import Derived.Test.YtgkniekggcgdcaaDoorLaws2
import Derived.RegionTactic
import Derived.Deep.OwnRows
namespace Go.Proofs.YtgkniekggcgdcaaDoor
open Go.RowKit Crc
attribute [local go_sem] u32_signed

theorem own_made_bytes (W : World) (B n : Nat) (hb : B ≤ W.heap.size) (hm : n ≤ 1000) : Row (W.alloc (.cells (madeCells #[.int .u8 0] n) 5)) B (.slice (some ⟨W.heap.size, 0, none⟩) n n) (List.replicate n 0) := by
  have h := World.ownsRow_lit (e := 5) (size := 1) (base := B) W (madeCells #[.int .u8 0] n) n hb (by unfold maxLen; omega) (by simp [madeCells])
  rw [toList_madeCells_one] at h
  unfold Row bv
  simpa using h

theorem Row.alloc {W : World} {B : Nat} {v : Value} {l : List UInt8} (h : Row W B v l) (o : Obj) : Row (W.alloc o) B v l := World.ownsRow.alloc h o
theorem Row.drew {W : World} {B : Nat} {v : Value} {l : List UInt8} (h : Row W B v l) : Row W.drew B v l := h
theorem Row.cellAt {w : World} {B g n cap : Nat} {l : List UInt8} (h : Row w B (.slice (some ⟨g, 0, none⟩) n cap) l) (hn : n = l.length) (k : Nat) (hk : k < l.length) :
    w.cell? ⟨g, k, none⟩ = some (.int .u8 (l[k].toNat : Int)) ∧ w.frozen? ⟨g, k, none⟩ = false := by
  subst hn
  refine ⟨?_, World.ownsRow.frozenAt (h : w.ownsRow B 5 1 _ l.length _) k⟩
  rw [World.ownsRow.cellAt (h : w.ownsRow B 5 1 _ l.length _) k (by omega)]
  simp [bv, hk]
/-- two rows of n zero bytes, apart -/
structure Two (w w2 : World) (n b5 b6 : Nat) (l5 l6 : List UInt8) : Prop where
  r5 : Row w2 w.heap.size (.slice (some ⟨b5, 0, none⟩) n n) l5
  r6 : Row w2 w.heap.size (.slice (some ⟨b6, 0, none⟩) n n) l6
  ne : b5 ≠ b6
  below : Below w.heap.size w w2
  ge : w.heap.size ≤ b5
theorem two_made (w : World) (n : Nat) (hn : n ≤ 1000) :
    Two w ((w.alloc (.cells (madeCells #[.int .u8 0] n) 5)).alloc (.cells (madeCells #[.int .u8 0] n) 5)).drew n w.heap.size (w.heap.size + 1) (List.replicate n 0) (List.replicate n 0) ∧
    Two w ((w.alloc (.cells (madeCells #[.int .u8 0] n) 5)).alloc (.cells (madeCells #[.int .u8 0] n) 5)).drew n (w.heap.size + 1) w.heap.size (List.replicate n 0) (List.replicate n 0) := by
  have h1 := own_made_bytes w w.heap.size n (Nat.le_refl _) hn
  have h2 := own_made_bytes (w.alloc (.cells (madeCells #[.int .u8 0] n) 5)) w.heap.size n (by simp) hn
  have hb : Below w.heap.size w ((w.alloc (.cells (madeCells #[.int .u8 0] n) 5)).alloc (.cells (madeCells #[.int .u8 0] n) 5)).drew := ((below_new _ _).alloc (by simp) _).drew
  have e : (w.alloc (.cells (madeCells #[.int .u8 0] n) 5)).heap.size = w.heap.size + 1 := by simp
  rw [e] at h2
  exact ⟨⟨(h1.alloc _).drew, h2.drew, by omega, hb, by omega⟩, ⟨h2.drew, (h1.alloc _).drew, by omega, hb, by omega⟩⟩
theorem Two.stored {w w2 : World} {n b5 b6 : Nat} {l5 l6 : List UInt8} (h : Two w w2 n b5 b6 l5 l6) (hl : n = l5.length) (k : Nat) (c : UInt8) : Two w (w2.setCell ⟨b5, k, none⟩ (.int .u8 (c.toNat : Int))) n b5 b6 (l5.set k c) l6 := by
  refine ⟨Row.stored h.r5 hl k c, ?_, h.ne, h.below.setCell h.ge _, h.ge⟩
  have h5 := h.r5
  subst hl
  exact World.ownsRow.kept (row := some b5) h.r6 (World.ownsRow.stored (h5 : w2.ownsRow _ 5 1 _ l5.length _) k (.int .u8 (c.toNat : Int))).2 (.inr (by simp [Value.ownBlock]; exact fun e => h.ne e.symm))
theorem Two.drew {w w2 : World} {n b5 b6 : Nat} {l5 l6 : List UInt8} (h : Two w w2 n b5 b6 l5 l6) : Two w w2.drew n b5 b6 l5 l6 := ⟨h.r5, h.r6, h.ne, h.below.drew, h.ge⟩
/-- what 'both' holds when k bytes are done -/
def part (k : Nat) (a b : List UInt8) : List UInt8 := (List.zipWith (· ^^^ ·) a b).take k ++ List.replicate (a.length - k) 0
theorem part_length {k : Nat} {a b : List UInt8} (h : a.length = b.length) (hk : k ≤ a.length) : (part k a b).length = a.length := by simp [part, ← h]; omega
theorem part_set' {k m : Nat} {z : List UInt8} {x : UInt8} (hz : z.length = m) (hk : k < m) (hg : ∀ hh : k < z.length, z[k] = x) : (z.take k ++ List.replicate (m - k) 0).set k x = z.take (k + 1) ++ List.replicate (m - (k + 1)) 0 := by
  have e0 : (z.take k).length = k := by rw [List.length_take]; omega
  rw [List.set_append_right _ _ (by omega), List.take_succ_eq_append_getElem (by omega), List.append_assoc, hg, e0, Nat.sub_self, show m - k = (m - (k + 1)) + 1 by omega, List.replicate_succ]
  rfl
theorem part_set {k : Nat} {a b : List UInt8} (h : a.length = b.length) (hk : k < a.length) : (part k a b).set k (a[k] ^^^ b[k]) = part (k + 1) a b :=
  part_set' (by simp [h]) hk (by intro hh; simp)
theorem part_all {a b : List UInt8} (h : a.length = b.length) : part a.length a b = List.zipWith (· ^^^ ·) a b := by
  unfold part
  rw [Nat.sub_self, List.replicate_zero, List.append_nil, List.take_of_length_le (by simp [h])]
theorem part_none {a b : List UInt8} : part 0 a b = List.replicate a.length 0 := by simp [part]

set_option maxHeartbeats 1000000 in
set_option maxRecDepth 100000 in
theorem sumLike_yes (A B : Option Addr) (a b : List UInt8) (ca cb : Nat) (w : World) (hA : Bytes w A a) (hB : Bytes w B b) (la : a.length ≤ 1000) (lb : a.length = b.length) (ht : Tab w) :
    Calls Tryd.prog 6 #[.slice A a.length ca, .slice B b.length cb] w fun e w' => e = .returned (.bool true) ∧ Below w.heap.size w w' := by
  have HT := hid ht
  have HA := hid hA
  have HB := hid hB
  have t1 := le_of la
  have LB := hid lb
  rw [← lb]
  obtain ⟨n, hn⟩ : ∃ n, a.length = n := ⟨_, rfl⟩
  rw [hn] at la t1 ⊢
  have t2 : ((n : Int) != (n : Int)) = false := by simp
  have hmk := run_make_row' (P := Tryd.prog) 22 5 (.int .u8 0) 1 Tryd.underlying22 info5 rfl .i64 .i64 n (by omega) (by omega)
  have HN := hid hn
  clear ht hA hB lb hn
  go_enter Tryd.func6, Tryd.ntmps6
  go_wp2_with fail
  have T1 := hid (two_made w n la).1
  have T2 := hid (two_made w n la).2
  go_region
  all_goals go_wp2_with fail
  have T := T1
  clear T1 T2
  revert T
  generalize w.heap.size + 1 = b6
  generalize w.heap.size = b5
  generalize World.drew _ = w2
  intro T
  rotate_left
  have T := T2
  clear T1 T2
  revert T
  generalize w.heap.size + 1 = b5
  generalize w.heap.size = b6
  generalize World.drew _ = w2
  intro T
  all_goals
    go_loopw [27] (fun i wr => ∃ k : Nat, k ≤ n ∧ i = .int .i64 k ∧ Hid (Two w wr n b5 b6 (part k a b) (List.replicate n 0))) (fun i _ => n - (intOf i).toNat)
    case atStart => exact ⟨0, Nat.zero_le _, rfl, by have h := T.out; rw [← HN.out] at h ⊢; rw [part_none]; exact h⟩
    case round =>
      clear T
      obtain ⟨k, hk, rfl, T⟩ := hrel
      by_cases hlt : k < n
      · obtain ⟨ad, rfl, hca⟩ := (HA.out.below (T.out.below)).2 k (by rw [HN.out]; exact hlt)
        obtain ⟨bd, rfl, hcb⟩ := (HB.out.below (T.out.below)).2 k (by rw [← LB.out, HN.out]; exact hlt)
        have hka : k < a.length := by rw [HN.out]; exact hlt
        have hkb : k < b.length := by rw [← LB.out]; exact hka
        have hx := u8_xor' a[k] b[k]
        have e1 := byte_hi a[k]
        have e2 := byte_hi b[k]
        have hpl : n = (part k a b).length := by rw [part_length LB.out (by omega)]; exact HN.out.symm
        have hkp : k < (part k a b).length := by omega
        obtain ⟨hcc, hfr⟩ := Row.cellAt T.out.r5 (by omega) k hkp
        have T' : Hid (Two w (wr.setCell ⟨b5, k, none⟩ (.int .u8 ((a[k] ^^^ b[k]).toNat : Int))) n b5 b6 (part (k + 1) a b) (List.replicate n 0)) := by
          rw [← part_set LB.out hka]; exact T.out.stored (by omega) k _
        obtain ⟨x0, hx0⟩ : ∃ x0 : Int, (a[k].toNat : Int) = x0 := ⟨_, rfl⟩
        obtain ⟨y0, hy0⟩ : ∃ x0 : Int, (b[k].toNat : Int) = x0 := ⟨_, rfl⟩
        obtain ⟨z0, hz0⟩ : ∃ x0 : Int, ((a[k] ^^^ b[k]).toNat : Int) = x0 := ⟨_, rfl⟩
        obtain ⟨o0, ho0⟩ : ∃ x0 : Int, (((part k a b)[k]).toNat : Int) = x0 := ⟨_, rfl⟩
        have f1 : 0 ≤ x0 := by omega
        have f2 : 0 ≤ y0 := by omega
        rw [hx0, hy0, hz0] at hx
        rw [hx0] at hca e1
        rw [hy0] at hcb e2
        rw [ho0] at hcc
        rw [hz0] at T'
        clear hx0 hy0 hz0 ho0 hpl hkp hka hkb T
        go_wp2_with fail
        go_region
        all_goals go_wp2
        all_goals go_roundw
        case rel => exact ⟨k + 1, by omega, by go_num, T'.out.drew⟩
        case measure => simp [intOf]; omega
      · have hkn : k = n := by omega
        obtain ⟨Z, hZ⟩ : ∃ Z, List.zipWith (· ^^^ ·) a b = Z := ⟨_, rfl⟩
        obtain ⟨O, hO⟩ : ∃ O : List UInt8, List.replicate n (0 : UInt8) = O := ⟨_, rfl⟩
        have zn : Z.length = n := by rw [← hZ, ← HN.out]; simp [LB.out]
        have on : O.length = n := by rw [← hO]; simp
        have lbn : b.length = n := by rw [← LB.out]; exact HN.out
        have lan : a.length = n := HN.out
        have hT := T.out
        rw [hkn, show part n a b = Z by rw [← HN.out, part_all LB.out]; exact hZ, hO] at hT
        have hlike : Crc.of Z = Crc.of a ^^^ Crc.of b ^^^ Crc.of O := by rw [← hZ, ← hO, ← HN.out]; exact of_like a b LB.out
        have y5 : Bytes wr (some ⟨b5, 0, none⟩) Z := by
          obtain ⟨A3, c3, e, h2⟩ := row_bytes hT.r5 (by omega)
          simp only [Value.slice.injEq] at e
          rw [← e.1] at h2
          exact h2
        have y6 : Bytes wr (some ⟨b6, 0, none⟩) O := by
          obtain ⟨A3, c3, e, h2⟩ := row_bytes hT.r6 (by omega)
          simp only [Value.slice.injEq] at e
          rw [← e.1] at h2
          exact h2
        have ya : Bytes wr A a := HA.out.below T.out.below
        have yb : Bytes wr B b := HB.out.below T.out.below
        have yt : Tab wr := HT.out.below T.out.below
        have bel := T.out.below
        have hs := bel.size
        obtain ⟨u, hu⟩ : ∃ n, U (Crc.of a) = n := ⟨_, rfl⟩
        obtain ⟨v, hv⟩ : ∃ n, U (Crc.of b) = n := ⟨_, rfl⟩
        obtain ⟨x, hx⟩ : ∃ n, U (Crc.of O) = n := ⟨_, rfl⟩
        obtain ⟨z, hz⟩ : ∃ n, U (Crc.of Z) = n := ⟨_, rfl⟩
        obtain ⟨uv, huv⟩ : ∃ n, U (Crc.of a ^^^ Crc.of b) = n := ⟨_, rfl⟩
        have q1 : bits .xor .u32 u v = uv := by rw [← hu, ← hv, ← huv, U_xor]
        have q2 : bits .xor .u32 uv x = z := by rw [← huv, ← hx, ← hz, U_xor, hlike]
        have Y5 := hid y5
        have Y6 := hid y6
        have YA := hid ya
        have YB := hid yb
        have YT := hid yt
        have BE := hid bel
        have HU := hid hu
        have HV := hid hv
        have HX := hid hx
        have HZ := hid hz
        have ZN := hid zn
        have ON := hid on
        have LBN := hid lbn
        have LAN := hid lan
        clear y5 y6 ya yb yt bel hu hv hx hz zn on lbn lan T hT hZ hO huv hlike hkn
        go_wp2_with fail
        refine (of_any (some ⟨wr.heap.size, 0, none⟩) [Z] 1 _ ?hp1 ?ht1).mono ?_
        case hp1 => rw [← ZN.out]; exact Parts.new1 rfl Y5.out
        case ht1 => exact YT.out.below (below_new _ _)
        rintro e w' ⟨rfl, rfl⟩
        rw [List.flatten_singleton, HZ.out]
        go_wp2_with fail
        refine (of_any (some ⟨wr.heap.size + 1, 0, none⟩) [a] 1 _ ?hp2 ?ht2).mono ?_
        case hp2 => rw [← LAN.out]; exact Parts.new1 (by simp) (YA.out.below (below_new _ _))
        case ht2 => exact YT.out.below ((below_new _ _).alloc (by simp) _)
        rintro e w' ⟨rfl, rfl⟩
        rw [List.flatten_singleton, HU.out]
        go_wp2_with fail
        refine (of_any (some ⟨wr.heap.size + 1 + 1, 0, none⟩) [b] 1 _ ?hp3 ?ht3).mono ?_
        case hp3 => rw [← LBN.out]; exact Parts.new1 (by simp) (YB.out.below ((below_new _ _).alloc (by simp) _))
        case ht3 => exact YT.out.below (((below_new _ _).alloc (by simp) _).alloc (by simp; omega) _)
        rintro e w' ⟨rfl, rfl⟩
        rw [List.flatten_singleton, HV.out]
        go_wp2_with fail
        refine (of_any (some ⟨wr.heap.size + 1 + 1 + 1, 0, none⟩) [O] 1 _ ?hp4 ?ht4).mono ?_
        case hp4 => rw [← ON.out]; exact Parts.new1 (by simp) (Y6.out.below (((below_new _ _).alloc (by simp) _).alloc (by simp; omega) _))
        case ht4 => exact YT.out.below ((((below_new _ _).alloc (by simp) _).alloc (by simp; omega) _).alloc (by simp; omega) _)
        rintro e w' ⟨rfl, rfl⟩
        rw [List.flatten_singleton, HX.out]
        go_wp2_with fail
        refine (awake_any _ ?ht5).mono ?_
        case ht5 => exact YT.out.below ((((below_new _ _).alloc (by simp) _).alloc (by simp; omega) _).alloc (by simp; omega) _)
        rintro e w' ⟨rfl, hb⟩
        go_wp2
        go_ret
        exact ⟨rfl, below_tr (below_tr BE.out hs ((((below_new _ _).alloc (by simp) _).alloc (by simp; omega) _).alloc (by simp; omega) _)) (by simp; omega) hb⟩

theorem gt_of {n : Nat} (h : 1000 < n) : decide ((1000 : Int) < (n : Int)) = true := by simp; omega
set_option maxHeartbeats 1000000 in
set_option maxRecDepth 100000 in
theorem sumLike_no (A B : Option Addr) (a b : List UInt8) (ca cb : Nat) (w : World) (h : 1000 < a.length ∨ a.length ≠ b.length) (ht : Tab w) :
    Calls Tryd.prog 6 #[.slice A a.length ca, .slice B b.length cb] w fun e w' => e = .returned (.bool true) ∧ Below w.heap.size w w' := by
  have HT := hid ht
  clear ht
  by_cases h1 : 1000 < a.length
  · have t1 := gt_of h1
    clear h
    go_enter Tryd.func6, Tryd.ntmps6
    go_wp2_with fail
    refine (awake_any _ HT.out).mono ?_
    rintro e w' ⟨rfl, hb⟩
    go_wp2
    go_ret
    exact ⟨rfl, hb⟩
  · have t1 := le_of (Nat.not_lt.1 h1)
    have t2 : ((a.length : Int) != (b.length : Int)) = true := by rw [bne_iff_ne]; omega
    clear h
    go_enter Tryd.func6, Tryd.ntmps6
    go_wp2_with fail
    refine (awake_any _ HT.out).mono ?_
    rintro e w' ⟨rfl, hb⟩
    go_wp2
    go_ret
    exact ⟨rfl, hb⟩
end Go.Proofs.YtgkniekggcgdcaaDoor
