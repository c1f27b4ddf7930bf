/- The walks of slices.Clone over ints, ring.Copy, RingCopies. -/
import Derived.Test.YtlekhibddmbjnaaLaws
import Derived.Deep.RegionWith
import Derived.Lib.SliceRun
namespace Go.Proofs.Ytlekhibddmbjnaa
open Go.RowKit

set_option maxHeartbeats 400000 in
set_option maxRecDepth 100000 in
theorem clone_any (B n : Nat) (v : Value) (xs : List Int) (w : World) (h : w.ownsRow B 3 1 v n (ints xs)) (hn : n ≤ 1000000) :
    Calls Try.prog 28 #[v] w fun e w' => ∃ v', e = .returned v' ∧ w'.ownsRow w.heap.size 3 1 v' n (ints xs) ∧ Below w.heap.size w w' := by
  have hl : xs.length = n := by have := h.1; simp at this; exact this
  rcases h.2 with ⟨rfl, rfl⟩ | ⟨g, cap, cur, rfl, _⟩
  · obtain rfl := List.eq_nil_of_length_eq_zero hl
    have heq := Lib.run_eql_slice_nil (P := Try.prog) w 22 3 none 0 0 0 0 Try.underlying22
    clear h
    go_enter Try.func28, Try.ntmps28
    go_wp2
    go_ret
    exact ⟨_, rfl, World.ownsRow_nil _ _ _ _, Below.refl _ _⟩
  · have heq := Lib.run_eql_slice_nil (P := Try.prog) w 22 3 (some ⟨g, 0, none⟩) n cap 0 0 Try.underlying22
    obtain ⟨A, c, he, hR⟩ := own_reads h (by omega)
    simp only [Value.slice.injEq] at he
    obtain ⟨hA, he1, he2⟩ := he
    rw [← hA] at hR
    clear he1 he2
    have HR := hid hR
    have HL := hid hl
    clear h hR hA hl
    go_enter Try.func28, Try.ntmps28
    go_wp2_with (at_builtin; refine wpList_append_reads rfl (.tmp 5) (.tmp 6) 22 3 (.int .i64 0) 8 rfl Try.underlying22 info3 rfl w.heap.size _ 0 [] rfl (World.ownsRow_made w #[] 0 (Nat.le_refl _) (by decide) rfl) (some ⟨g, 0, none⟩) n (ints xs) cap rfl ?c1 ?c2 ?c3 ?c4 ?c5 ?c6 ?c7 ?_)
    case c1 => simp [HL.out]
    case c2 => exact HR.out.below (below_new _ _)
    case c3 => intro e; cases e
    case c4 => intro u hu; simp at hu; obtain ⟨y, _, rfl⟩ := hu; rfl
    case c5 => unfold maxLen; omega
    case c6 => omega
    case c7 => simp
    intro v1 w1 o1 g1 f1
    have b1 : Below w.heap.size w w1 := (below_new w (.cells #[] 3)).grown g1 (by simp) (by intro k hk; simp [Value.ownBlock] at hk; omega)
    have O1 := hid o1
    have B1 := hid b1
    clear o1 g1 f1 b1
    go_wp2
    go_ret
    exact ⟨_, rfl, by simpa using O1.out, B1.out⟩

set_option maxHeartbeats 4000000 in
set_option maxRecDepth 100000 in
theorem copyW (R m room n c B : Nat) (A : Option Addr) (xs : List Int) (w : World) (c0 : w.cell? ⟨R, 0, none⟩ = some (.slice A n c)) (c1 : w.cell? ⟨R, 1, none⟩ = some (.int .i64 room)) (c2 : w.cell? ⟨R, 2, none⟩ = some (.int .i64 m))
    (hn : n ≤ 1000000) (hown : w.ownsRow B 3 1 (.slice A n c) n (ints xs)) :
    Calls Try.prog 19 #[.pointer (some ⟨R, 0, none⟩)] w fun e w' => ∃ v' w1, e = .returned (.pointer (some ⟨w1.heap.size, 0, none⟩)) ∧ w1.ownsRow w.heap.size 3 1 v' n (ints xs) ∧ Below w.heap.size w w1 ∧
      Calm (w1.alloc (.cells #[v', .int .i64 room, .int .i64 m] 52)) w' := by
  have hln : (ints xs).length = n := by have := hown.1; simpa using this
  have HLN := hid hln
  have HO := hid hown
  clear hown hln
  go_enter Try.func19, Try.ntmps19
  go_wp2
  go_region_with (first
    | (go_at_call 28
       refine (clone_any B _ _ xs _ ?_ hn).mono ?_
       · exact HO.out
       rintro e w1 ⟨v1, rfl, o1, b0⟩
       have b1 : Below w.heap.size w w1 := ⟨b0.os, b0.tape, b0.output, b0.size, b0.block⟩
       have d0 := cell_below b1 c0
       have d1 := cell_below b1 c1
       have d2 := cell_below b1 c2
       obtain ⟨A1, k1, hv1, _⟩ := own_reads o1 (by omega)
       rw [HLN.out] at hv1
       have O1 := hid o1
       have B1 := hid b1
       rw [hv1] at O1 ⊢
       clear o1 b0 b1 hv1))
  all_goals go_wp2
  all_goals go_ret
  all_goals exact ⟨_, w1, rfl, O1.out, B1.out, ⟨rfl, rfl, rfl, rfl⟩⟩

def CopyPost (w : World) (room : Nat) (xs : List Int) (e : Ending) (w' : World) : Prop :=
  ∃ R' v', e = .returned (.pointer (some ⟨R', 0, none⟩)) ∧ IsRing 52 3 (Value.int .i64) w.heap.size w' R' v' room xs ∧ Below w.heap.size w w'
theorem copy_any {B : Nat} {w : World} {R : Nat} {v : Value} {room : Nat} {xs : List Int} (h : IsRing 52 3 (Value.int .i64) B w R v room xs) (hm : xs.length ≤ 1000000) :
    Calls Try.prog 19 #[.pointer (some ⟨R, 0, none⟩)] w (CopyPost w room xs) := by
  obtain ⟨A, c, hv⟩ := h.shape
  subst hv
  have hl := Plain.ring_length room xs
  refine (copyW R xs.length room _ c B A (Plain.ring room xs) w h.c0 h.c1 h.c2 (by omega) h.row).mono ?_
  rintro e w' ⟨v', w1, rfl, hown, hb, hc⟩
  refine ⟨w1.heap.size, v', rfl, ?_, (below_tr hb hb.size (below_new _ _)).trans (hc.below _)⟩
  exact IsRing.calm ⟨block_new w1 _, hown.alloc _, hb.size, by decide⟩ hc

set_option maxHeartbeats 1000000 in
set_option maxRecDepth 100000 in
theorem copies_no (room : Int) (A A2 : Option Addr) (c c2 : Nat) (l more : List Int) (w : World) (h : room < 0 ∨ 65536 < room ∨ 200 < l.length ∨ 200 < more.length) :
    Calls Try.prog 7 #[.int .i64 room, .slice A l.length c, .slice A2 more.length c2] w fun e w' => e = .returned (.bool true) ∧ Below w.heap.size w w' := by
  by_cases h1 : room < 0 ∨ 65536 < room
  · have H1 := hid h1
    clear h h1
    go_enter Try.func7, Try.ntmps7
    go_wp2_with fail
    refine (new_no room w H1.out).mono ?_
    rintro e w0 ⟨rfl, rfl⟩
    go_wp2_with fail
    refine (awake_any w).mono ?_
    rintro e w1 ⟨rfl, hb⟩
    go_wp2
    go_ret
    exact ⟨rfl, hb⟩
  · obtain ⟨n, rfl⟩ := Int.eq_ofNat_of_zero_le (show 0 ≤ room by omega)
    have hn : n ≤ 65536 := by omega
    by_cases h2 : 200 < l.length
    · have t1 := gt200 h2
      clear h h1
      go_enter Try.func7, Try.ntmps7
      go_wp2_with fail
      refine (new_yes n w hn).mono ?_
      rintro e w0 ⟨rfl, rfl⟩
      go_wp2_with fail
      refine (awake_any _).mono ?_
      rintro e w1 ⟨rfl, hb⟩
      go_wp2
      go_ret
      exact ⟨rfl, below_tr (below_new _ _) (by simp) hb⟩
    · have t1 := le200 (Nat.not_lt.1 h2)
      have t2 := gt200 (n := more.length) (by omega)
      clear h h1
      go_enter Try.func7, Try.ntmps7
      go_wp2_with fail
      refine (new_yes n w hn).mono ?_
      rintro e w0 ⟨rfl, rfl⟩
      go_wp2_with fail
      refine (awake_any _).mono ?_
      rintro e w1 ⟨rfl, hb⟩
      go_wp2
      go_ret
      exact ⟨rfl, below_tr (below_new _ _) (by simp) hb⟩

/-- two rings, apart -/
structure Both (w wr : World) (R R' : Nat) (v v' : Value) (room : Nat) (xs ys : List Int) : Prop where
  one : IsRing 52 3 (Value.int .i64) w.heap.size wr R v room xs
  two : IsRing 52 3 (Value.int .i64) w.heap.size wr R' v' room ys
  apart : ∀ x ∈ feet R' v', x ∉ feet R v
  below : Below w.heap.size w wr
theorem IsRing.low {B B' : Nat} {w : World} {R : Nat} {v : Value} {room : Nat} {xs : List Int} (h : IsRing 52 3 (Value.int .i64) B w R v room xs) (hB : B' ≤ B) : IsRing 52 3 (Value.int .i64) B' w R v room xs :=
  ⟨h.blk, own_mono h.row hB, Nat.le_trans hB h.ge, h.ne⟩
theorem Both.put {w wr w1 : World} {R R' : Nat} {v v' v1 : Value} {room : Nat} {xs ys : List Int} {x : Int} (h : Both w wr R R' v v' room xs ys) (r1 : IsRing 52 3 (Value.int .i64) w.heap.size w1 R v1 room (xs ++ [x])) (tt : Touch (feet R v) wr w1)
    (hf : v1.ownBlock = v.ownBlock ∨ ∀ g, v1.ownBlock = some g → wr.heap.size ≤ g) : Both w w1 R R' v1 v' room (xs ++ [x]) ys :=
  ⟨r1, h.two.kept tt h.apart, by
    intro y hy hm
    have hlt := h.two.feet_lt y hy
    have hap := h.apart y hy
    simp only [feet, List.mem_cons, Option.mem_toList] at hm hap
    rcases hm with rfl | hm
    · exact hap (.inl rfl)
    · rcases hf with hf | hf
      · exact hap (.inr (hf ▸ hm))
      · have := hf y hm; omega, tt.below h.below h.below.size h.one.feet_ge⟩

set_option maxHeartbeats 2000000 in
set_option maxRecDepth 100000 in
theorem copies_yes (room : Nat) (A A2 : Option Addr) (c c2 : Nat) (l more : List Int) (w : World) (hr : room ≤ 65536) (ll : l.length ≤ 200) (lm : more.length ≤ 200) (hl : Reads w A (ints l)) (hl2 : Reads w A2 (ints more)) :
    Calls Try.prog 7 #[.int .i64 room, .slice A l.length c, .slice A2 more.length c2] w fun e w' => e = .returned (.bool true) ∧ Below w.heap.size w w' := by
  have t1 := le200 ll
  have t2 := le200 lm
  have HL := hid hl
  have HM := hid hl2
  clear hl hl2
  go_enter Try.func7, Try.ntmps7
  go_wp2_with fail
  refine (new_yes room w hr).mono ?_
  rintro e w0 ⟨rfl, hw0⟩
  have R0 := hid (ring_new w.heap.size w room (Nat.le_refl _))
  rw [← hw0] at R0
  have B0 : Hid (Below w.heap.size w w0) := by rw [hw0]; exact below_new _ _
  clear hw0
  go_wp2
  go_loopw [35] (fun i wr => ∃ k : Nat, k ≤ l.length ∧ i = .int .i64 k ∧ ∃ v, Hid (IsRing 52 3 (Value.int .i64) w.heap.size wr w.heap.size v room (l.take k)) ∧ Hid (Below w.heap.size w wr)) (fun i _ => l.length - (intOf i).toNat)
  case atStart => exact ⟨0, Nat.zero_le _, rfl, _, R0, B0⟩
  case round =>
    clear R0 B0
    obtain ⟨k, hk, rfl, v, HR, HB⟩ := hrel
    by_cases hlt : k < l.length
    · obtain ⟨ad, rfl, hc⟩ := (HL.out.below HB.out).2 k (by simpa using hlt)
      rw [List.getElem_map] at hc
      obtain ⟨x, hx⟩ : ∃ x, l[k] = x := ⟨_, rfl⟩
      rw [hx] at hc
      have HX := hid hx
      clear hx
      go_wp2_with fail
      refine (put_any HR.out x hr (by simp; omega)).mono ?_
      rintro e w1 ⟨rfl, v1, r1, tt, f1⟩
      have B1 := hid (tt.below HB.out HB.out.size HR.out.feet_ge)
      rw [← HX.out, ← take_snoc hlt] at r1
      have R1 := hid r1
      clear r1 tt f1
      go_wp2
      go_roundw
      case rel => exact ⟨k + 1, by omega, by go_num, v1, R1, B1⟩
      case measure => simp [intOf]; omega
    · have hk2 : l.take k = l := List.take_of_length_le (by omega)
      rw [hk2] at HR
      clear hk2
      go_wp2_with fail
      refine (copy_any HR.out (by omega)).mono ?_
      rintro e w1 ⟨R', v', rfl, r2, b2⟩
      have HH : Hid (Both w w1 w.heap.size R' v v' room (l ++ more.take 0) l) := by
        rw [List.take_zero, List.append_nil]
        refine ⟨HR.out.kept (Touch.of_below b2 []) (by simp), r2.low HB.out.size, ?_, below_tr HB.out HB.out.size b2⟩
        intro y hy hm
        have := r2.feet_ge y hy
        have := HR.out.feet_lt y hm
        omega
      clear r2 b2 HR HB
      go_wp2
      obtain ⟨wo, rfl⟩ : ∃ wo : World, wo = wr := ⟨_, rfl⟩
      go_loopw [47] (fun i wr => ∃ k : Nat, k ≤ more.length ∧ i = .int .i64 k ∧ ∃ v, Hid (Both w wr w.heap.size R' v v' room (l ++ more.take k) l)) (fun i _ => more.length - (intOf i).toNat)
      case atStart => exact ⟨0, Nat.zero_le _, rfl, _, HH⟩
      case round =>
        clear HH
        obtain ⟨j, hj, rfl, vj, HB⟩ := hrel
        by_cases hjt : j < more.length
        · obtain ⟨ad, rfl, hc⟩ := (HM.out.below HB.out.below).2 j (by simpa using hjt)
          rw [List.getElem_map] at hc
          obtain ⟨x, hx⟩ : ∃ x, more[j] = x := ⟨_, rfl⟩
          rw [hx] at hc
          have HX := hid hx
          clear hx
          go_wp2_with fail
          refine (put_any HB.out.one x hr (by simp; omega)).mono ?_
          rintro e w2 ⟨rfl, v2, r2, tt, f2⟩
          have H2 := HB.out.put r2 tt f2
          rw [List.append_assoc, ← HX.out, ← take_snoc hjt] at H2
          have HB2 := hid H2
          clear r2 tt f2 H2
          go_wp2
          go_roundw
          case rel => exact ⟨j + 1, by omega, by go_num, v2, HB2⟩
          case measure => simp [intOf]; omega
        · have HT := hid HB.out.two
          have HW := hid HB.out.below
          clear HB
          go_wp2
          obtain ⟨wo2, rfl⟩ : ∃ wo : World, wo = wr := ⟨_, rfl⟩
          go_loopw [58] (fun i wr => ∃ a : Nat, a ≤ l.length + 1 ∧ i = .int .i64 a ∧ Hid (IsRing 52 3 (Value.int .i64) w.heap.size wr R' v' room l) ∧ Hid (Below w.heap.size w wr)) (fun i _ => l.length + 1 - (intOf i).toNat)
          case atStart => exact ⟨0, Nat.zero_le _, rfl, HT, HW⟩
          case round =>
            clear HT HW
            obtain ⟨a, ha, rfl, HR, HB⟩ := hrel
            by_cases hal : a < l.length + 1
            · have hal' : (a : Int) < (l.length : Int) + 1 := by omega
              go_wp2_with fail
              refine (at_any HR.out a hr (by omega)).mono ?_
              rintro e w1 ⟨rfl, h1⟩
              have B1 := hid (HB.out.trans (h1.below _))
              have R1 := hid (HR.out.calm h1)
              clear h1
              obtain ⟨p, hp⟩ : ∃ p, (aged room l a).getD 0 = p := ⟨_, rfl⟩
              obtain ⟨b, hb⟩ : ∃ p, (aged room l a).isSome = p := ⟨_, rfl⟩
              rw [told_eq, hp, hb]
              have HP := hid hp
              have HQ := hid hb
              have hpp : (p != p) = false := by simp
              have hbb : (b != b) = false := by simp
              clear hp hb
              go_wp2_with fail
              refine (ref_any (HL.out.below B1.out) c room a (by omega)).mono ?_
              rintro e w2 ⟨rfl, h2⟩
              have B2 := hid (B1.out.trans (h2.below _))
              have R2 := hid (R1.out.calm h2)
              clear h2
              rw [told_eq, HP.out, HQ.out]
              go_wp2
              go_roundw
              case rel => exact ⟨a + 1, by omega, by go_num, R2, B2⟩
              case measure => simp [intOf]; omega
            · have hal' : ¬ (a : Int) < (l.length : Int) + 1 := by omega
              go_wp2_with fail
              refine (many_any HR.out).mono ?_
              rintro e w1 ⟨rfl, rfl⟩
              go_wp2_with fail
              refine (room_any HR.out).mono ?_
              rintro e w1 ⟨rfl, rfl⟩
              go_wp2_with fail
              refine (awake_any _).mono ?_
              rintro e w3 ⟨rfl, h3⟩
              go_wp2
              go_ret
              exact ⟨rfl, below_trans HB.out h3⟩
end Go.Proofs.Ytlekhibddmbjnaa
