/- The walk of RingWhole. -/
import Derived.Deep.RegionHeld
import Derived.Test.YtlekhibddmbjnaaIter
namespace Go.Proofs.Ytlekhibddmbjnaa
open Go.RowKit Go.Shelf
attribute [local go_sem] Oper.semAt_some

theorem olds_all (room : Nat) (l : List Int) (h : l.length ≤ room) : olds room l = l := by unfold olds; rw [Nat.min_eq_left h]; simp

theorem lt_of_some {w : World} {D : Nat} {o : Obj} (h : w.heap[D]? = some o) : D < w.heap.size := (Array.getElem?_eq_some_iff.1 h).1
theorem getElem_same {l : List Int} {a b : Nat} (h : a = b) {hb : b < l.length} : l[b] = l[a]'(h ▸ hb) := by subst h; rfl
theorem prefix_snoc {pre l : List Int} {x : Int} (h : pre <+: l) (hl : pre.length < l.length) (hx : l[pre.length] = x) : pre ++ [x] <+: l := by
  obtain ⟨t, rfl⟩ := h
  cases t with
  | nil => simp at hl
  | cons y t => simp at hx; subst hx; exact ⟨t, by simp⟩
theorem not_snoc {pre l : List Int} {x : Int} (hl : pre.length < l.length) (hx : l[pre.length] ≠ x) : ¬ pre ++ [x] <+: l := by
  rintro ⟨t, rfl⟩
  exact hx (by simp)

set_option maxHeartbeats 1000000 in
set_option maxRecDepth 100000 in
theorem whole_in (A : Option Addr) (c m : Nat) (l : List Int) (w : World) (ll : l.length ≤ 200) (hm : m ≤ 255) (hl : Reads w A (ints l)) :
    CallsIn Fence.wide 9 Try.prog 6 #[.slice A l.length c, .int .u8 m] w fun e w' => e = .returned (.bool true) ∧ Below w.heap.size w w' := by
  have t1 := le200 ll
  have HL := hid hl
  clear hl
  refine callsIn_of_wp_marks Try.func6 rfl trivial ?_ rfl
  simp only [Try.ntmps6, List.size_toArray, List.length_cons, List.length_nil, Nat.reduceAdd, Nat.reduceSub, Array.replicate_succ, Array.replicate_zero, List.push_toArray, List.append_toArray, List.nil_append, List.cons_append]
  gi_wp2_with fail
  rw [show ((l.length : Int) + (m : Int)) = ((l.length + m : Nat) : Int) by omega]
  obtain ⟨w0, hw0⟩ : ∃ w0, (w.alloc (.cells #[.slice A l.length c] 22)).alloc (.cells #[.bool false] 4) = w0 := ⟨_, rfl⟩
  have z0 : w0.heap.size = w.heap.size + 2 := by rw [← hw0]; simp
  have b0 : Below w.heap.size w w0 := by rw [← hw0]; exact (below_new _ _).alloc (by simp) _
  have c0 : w0.cell? ⟨w.heap.size, 0, none⟩ = some (.slice A l.length c) := by rw [← hw0]; exact cell_past _ (cell_one w _ 22).1
  have hc1 := cell_one (w.alloc (.cells #[.slice A l.length c] 22)) (.bool false) 4
  rw [World.size_alloc, hw0] at hc1
  obtain ⟨c1, f1⟩ := hc1
  rw [hw0]
  obtain ⟨room, hroom⟩ : ∃ room, l.length + m = room := ⟨_, rfl⟩
  rw [hroom]
  have hr1 : l.length ≤ room := by omega
  have hr2 : room ≤ 65536 := by omega
  have Z0 := hid z0
  have B0 := hid b0
  have C0 := hid c0
  have C1 := hid c1
  have F1 := hid f1
  clear hw0 z0 b0 c0 c1 f1 hroom
  refine ⟨trivial, ?_⟩
  refine (callsIn_wide.2 (new_yes room w0 hr2)).mono ?_
  rintro e w1 ⟨rfl, hw1⟩
  have R0 := hid (ring_new w0.heap.size w0 room (Nat.le_refl _))
  rw [← hw1] at R0
  have D0 : Hid (Below w0.heap.size w0 w1) := by rw [hw1]; exact below_new _ _
  have k0 : w1.cell? ⟨w.heap.size, 0, none⟩ = some (.slice A l.length c) := cell_below D0.out C0.out
  clear hw1
  gi_wp2
  gi_loopw [25] (fun i wr => ∃ k : Nat, k ≤ l.length ∧ i = .int .i64 k ∧ ∃ v, Hid (IsRing 52 3 (Value.int .i64) w0.heap.size wr w0.heap.size v room (l.take k)) ∧ Hid (Below w0.heap.size w0 wr)) (fun i _ => l.length - (intOf i).toNat)
  case atStart => exact ⟨0, Nat.zero_le _, rfl, _, R0, D0⟩
  case round =>
    clear R0 D0 k0
    obtain ⟨k, hk, rfl, v, HR, HB⟩ := hrel
    by_cases hlt : k < l.length
    · obtain ⟨ad, rfl, hc⟩ := ((HL.out.below B0.out).below HB.out).2 k (by simpa using hlt)
      rw [List.getElem_map] at hc
      obtain ⟨x, hx⟩ : ∃ x, l[k] = x := ⟨_, rfl⟩
      rw [hx] at hc
      have HX := hid hx
      clear hx
      gi_wp2_with fail
      refine ⟨trivial, ?_⟩
      refine (callsIn_wide.2 (put_any HR.out x hr2 (by simp; omega))).mono ?_
      rintro e w2 ⟨rfl, v1, r1, tt, ff⟩
      have B1 := hid (tt.below HB.out HB.out.size HR.out.feet_ge)
      have HO := Plain.out_row room (l.take k) x
      rw [show (if room = 0 then some x else if (l.take k).length < room then none else (l.take k)[(l.take k).length - room]?) = none by
        rw [if_neg (by omega), if_pos (by simp; omega)]] at HO
      rw [HO, show told none = .tuple #[.int .i64 0, .bool false] from rfl]
      rw [← HX.out, ← take_snoc hlt] at r1
      have R1 := hid r1
      clear r1 tt ff HO
      gi_wp2
      go_roundw
      case rel => exact ⟨k + 1, by omega, by go_num, v1, R1, B1⟩
      case measure => simp [intOf]; omega
    · have hk2 : l.take k = l := List.take_of_length_le (by omega)
      rw [hk2] at HR
      clear hk2
      gi_wp2_with fail
      refine ⟨trivial, ?_⟩
      refine (callsIn_wide.2 (old_any _ _)).mono ?_
      rintro e w3 ⟨rfl, rfl⟩
      have hq : ∀ (W : World) (x : Value), (binOp .eql 32 (.func (.func 27) #[] #[x]) .nilFunc).run Try.prog W = .ok (.bool false) W := fun _ _ => by kernel_rfl
      gi_wp2_with fail
      clear hq
      obtain ⟨b2, hb2⟩ : ∃ b, wr.heap.size = b := ⟨_, rfl⟩
      obtain ⟨W3, hW3⟩ : ∃ W, (wr.alloc (.cells #[.int .i64 0] 3)).alloc (.cells #[.pointer (some ⟨w0.heap.size, 0, none⟩)] 23) = W := ⟨_, rfl⟩
      have z3 : W3.heap.size = b2 + 2 := by rw [← hW3, ← hb2]; simp
      have hz0 := Z0.out
      have hB02 : w0.heap.size ≤ b2 := by rw [← hb2]; exact HB.out.size
      have b3 : Below wr.heap.size wr W3 := by rw [← hW3]; exact (below_new _ _).alloc (by simp) _
      have bW : Below w0.heap.size w0 W3 := below_tr HB.out HB.out.size b3
      have bw : Below w.heap.size w W3 := below_tr B0.out B0.out.size bW
      have k2 : W3.cell? ⟨b2, 0, none⟩ = some (.int .i64 0) := by rw [← hW3, ← hb2]; exact cell_past _ (cell_one wr _ 3).1
      have g2 : W3.frozen? ⟨b2, 0, none⟩ = false := by rw [← hW3, ← hb2]; exact frozen_past _ (cell_one wr _ 3).1 (cell_one wr _ 3).2
      have k3 : W3.cell? ⟨b2 + 1, 0, none⟩ = some (.pointer (some ⟨w0.heap.size, 0, none⟩)) := by
        have := (cell_one (wr.alloc (.cells #[.int .i64 0] 3)) (.pointer (some ⟨w0.heap.size, 0, none⟩)) 23).1
        rw [World.size_alloc, hb2, hW3] at this
        exact this
      have r3 := HR.out.kept (Touch.of_below b3 []) (by simp)
      have c3 : W3.cell? ⟨w.heap.size, 0, none⟩ = some (.slice A l.length c) := cell_below bW C0.out
      have d3 : W3.cell? ⟨w.heap.size + 1, 0, none⟩ = some (.bool false) := cell_below bW C1.out
      have f3 : W3.frozen? ⟨w.heap.size + 1, 0, none⟩ = false := (bW.frozen (p := ⟨w.heap.size + 1, 0, none⟩) (by show w.heap.size + 1 < w0.heap.size; omega)).trans F1.out
      have ft : ∀ x ∈ (b2 + 1) :: feet w0.heap.size v, x < W3.heap.size := by
        intro x hx
        simp only [List.mem_cons] at hx
        rcases hx with rfl | hx
        · omega
        · exact r3.feet_lt x hx
      have hbf : b2 ∉ (b2 + 1) :: feet w0.heap.size v := by
        intro hx
        simp only [List.mem_cons] at hx
        rcases hx with hx | hx
        · omega
        · have := HR.out.feet_lt b2 hx; omega
      rw [hW3, hb2]
      clear hW3
      have seq := old1_stops 8 (by decide) r3 (b2 + 1) k3 hr2 (by omega)
      rw [Nat.min_eq_left hr1, olds_all room l hr1] at seq
      have SEQ := hid seq
      clear seq r3
      refine rangeFunc_F rfl (by decide) (gf := 27) (lb := #[.pointer (some ⟨b2 + 1, 0, none⟩)]) ?hg trivial (enters_of Try.func27 (by kernel_rfl) rfl) SEQ.out (fun h k => h.trans k) (keepB_b ft) (Below.refl _ _) (fun _ => rfl)
        (fun pre W => (pre <+: l ∧ W.cell? ⟨b2, 0, none⟩ = some (.int .i64 (pre.length : Int)) ∧ W.frozen? ⟨b2, 0, none⟩ = false ∧ W.cell? ⟨w.heap.size, 0, none⟩ = some (.slice A l.length c) ∧ W.cell? ⟨w.heap.size + 1, 0, none⟩ = some (.bool false) ∧ W.frozen? ⟨w.heap.size + 1, 0, none⟩ = false) ∧ Below w.heap.size w W)
        (fun _ pre _ => ¬ pre <+: l)
        (OwnFrom.and (Own.from (fun s A B row hs hg hr => ⟨hs.1, cell_kept hs.2.1 hg hr, (frozen_kept hs.2.1 hg hr).trans hs.2.2.1, cell_kept hs.2.2.2.1 hg hr, cell_kept hs.2.2.2.2.1 hg hr, (frozen_kept hs.2.2.2.2.1 hg hr).trans hs.2.2.2.2.2⟩) _) (ownFrom_below (Nat.le_refl _) (by omega)))
        (fun _ _ _ _ _ hs _ _ => hs)
        ⟨⟨List.nil_prefix, k2, g2, c3, d3, f3⟩, bw⟩
        [(12, fun x : Int => .int .i64 x)] ?assign ?body ?done ?stop
      case hg => rfl
      case assign =>
        intro ly x W K hK
        clear hz0
        generalize hls : leftSides _ _ _ _ _ = a1 at hK
        simp [leftSides] at hls
        subst hls
        gi_wp2
        exact hK
      case body =>
        rintro ly pre x W ⟨⟨hp, hck, hfk, hcl, hcr, hfr⟩, hB⟩ hN
        have hpl : ¬ l.length ≤ pre.length := by omega
        have hn1 : decide ((l.length : Int) ≤ (pre.length : Int)) = false := by simp; omega
        obtain ⟨ad, rfl, hc⟩ := (HL.out.below hB).2 pre.length (by simpa using hN)
        rw [List.getElem_map] at hc
        obtain ⟨y, hy⟩ : ∃ y, l[pre.length] = y := ⟨_, rfl⟩
        rw [hy] at hc
        have HY := hid hy
        have ysame : l[pre.length] = y := hy
        have YS := hid ysame
        clear ysame
        have HP := hid hp
        have HB2 := hid hB
        clear hy hp hB hz0
        generalize hls : leftSides _ _ _ _ _ = a1
        simp [leftSides] at hls
        subst hls
        obtain ⟨n0, hn0⟩ : ∃ n0, pre.length = n0 := ⟨_, rfl⟩
        rw [hn0] at hck hn1 hpl hc
        have HN0 := hid hn0
        clear hn0
        by_cases hxy : x = y
        · have he1 : (x == y) = true := by simp [hxy]
          have he2 : (x != y) = false := by simp [hxy]
          have he3 : decide (x = y) = true := by simp [hxy]
          gi_wp2
          have hz0 := Z0.out
          refine ⟨KeepsOthers.setCell _ _ _, KeepB.setCell _ _ _ hbf, ⟨prefix_snoc HP.out (by omega) (by rw [YS.out, hxy]), ?_, ?_, ?_, ?_, ?_⟩, HB2.out.setCell (p := ⟨b2, 0, none⟩) (by show w.heap.size ≤ b2; omega) _⟩
          · rw [World.cell?_setCell_same' _ _ _ (by rw [hck]; rfl)]; simp [HN0.out]
          · rw [World.frozen?_setCell]; exact hfk
          · rw [World.cell?_setCell_far _ _ _ _ (by show b2 ≠ w.heap.size; omega)]; exact hcl
          · rw [World.cell?_setCell_far _ _ _ _ (by show b2 ≠ w.heap.size + 1; omega)]; exact hcr
          · rw [World.frozen?_setCell]; exact hfr
        · have he1 : (x == y) = false := by simp [hxy]
          have he2 : (x != y) = true := by simp [hxy]
          have he3 : decide (x = y) = false := by simp [hxy]
          gi_wp2
          exact ⟨KeepsOthers.setCell _ _ _, not_snoc (by omega) (by rw [YS.out]; exact fun e => hxy e.symm)⟩
      case done =>
        rintro D pre W hD hpre ⟨⟨hp, hck, hfk, hcl, hcr, hfr⟩, hB⟩ hK
        clear hz0
        rw [hpre] at hck
        gi_wp2_with fail
        refine ⟨trivial, ?_⟩
        refine (callsIn_wide.2 (awake_any W)).mono ?_
        rintro e W4 ⟨rfl, b4⟩
        have B4 := hid b4
        have hcr4 := (b4.cell (p := ⟨w.heap.size + 1, 0, none⟩) (World.block_lt_of_cell? W _ hcr)).trans hcr
        have hfr4 := (b4.frozen (p := ⟨w.heap.size + 1, 0, none⟩) (World.block_lt_of_cell? W _ hcr)).trans hfr
        have HBW := hid hB
        have HD := hid hD
        have HK := hid hK
        clear b4 hB hD hK hck hfk hcl hcr hfr hp hpre
        gi_wp2
        have hz0 := Z0.out
        have hK4 := (B4.out.block D (lt_of_some HK.out)).trans HK.out
        have hK' := (KeepsOthers.setCell W4 ⟨w.heap.size + 1, 0, none⟩ (.bool true)).same D _ hK4 rfl
        refine ⟨by simp, .inl ⟨_, _, rfl, run_takeDeferred hK', ?_⟩⟩
        have hc5 := cell_kept (World.cell?_setCell_same' W4 ⟨w.heap.size + 1, 0, none⟩ (.bool true) (by rw [hcr4]; rfl)) (grownBy_putObj' _ D (.deferred none)) (fun r e => by cases e; exact ⟨_, hK', rfl⟩)
        refine ⟨.bool true, ?_, rfl, ((below_tr HBW.out HBW.out.size B4.out).setCell (p := ⟨w.heap.size + 1, 0, none⟩) (by simp) _).trans (belowK_b (w := w) (Nat.le_refl _) _ D _ _ (by have := HD.out; omega) hK' rfl rfl)⟩
        simp [results, Try.f6, go_sem, hc5]
      case stop =>
        rintro D c pre W hD hpre hn hK
        exact absurd hpre hn

set_option maxHeartbeats 400000 in
set_option maxRecDepth 100000 in
theorem whole_no (A : Option Addr) (c m : Nat) (l : List Int) (w : World) (ll : ¬ l.length ≤ 200) :
    Calls Try.prog 6 #[.slice A l.length c, .int .u8 m] w fun e w' => e = .returned (.bool true) ∧ Below w.heap.size w w' := by
  have t1 : decide ((200 : Int) < (l.length : Int)) = true := by simp; omega
  go_enter Try.func6, Try.ntmps6
  go_wp2_with fail
  obtain ⟨w0, hw0⟩ : ∃ w0, (w.alloc (.cells #[.slice A l.length c] 22)).alloc (.cells #[.bool false] 4) = w0 := ⟨_, rfl⟩
  have b0 : Below w.heap.size w w0 := by rw [← hw0]; exact (below_new _ _).alloc (by simp) _
  have hc1 := cell_one (w.alloc (.cells #[.slice A l.length c] 22)) (.bool false) 4
  rw [World.size_alloc, hw0] at hc1
  obtain ⟨c1, f1⟩ := hc1
  rw [hw0]
  clear hw0
  refine (awake_any w0).mono ?_
  rintro e w4 ⟨rfl, b4⟩
  have hcr4 := (b4.cell (p := ⟨w.heap.size + 1, 0, none⟩) (World.block_lt_of_cell? w0 _ c1)).trans c1
  have hfr4 := (b4.frozen (p := ⟨w.heap.size + 1, 0, none⟩) (World.block_lt_of_cell? w0 _ c1)).trans f1
  have B4 := hid (below_tr b0 b0.size b4)
  clear b0 b4 c1 f1
  go_wp2
  refine bodyPost_ret (v := .bool true) (by simp [results, Try.f6, go_sem, World.cell?_setCell_same' w4 ⟨w.heap.size + 1, 0, none⟩ (.bool true) (by rw [hcr4]; rfl)]) rfl ⟨rfl, B4.out.setCell (p := ⟨w.heap.size + 1, 0, none⟩) (by simp) _⟩

theorem whole_any (A : Option Addr) (c m : Nat) (l : List Int) (w : World) (hm : m ≤ 255) (hl : Reads w A (ints l)) :
    Calls Try.prog 6 #[.slice A l.length c, .int .u8 m] w fun e w' => e = .returned (.bool true) ∧ Below w.heap.size w w' := by
  by_cases ll : l.length ≤ 200
  · exact callsIn_wide.1 (whole_in A c m l w ll hm hl)
  · exact whole_no A c m l w ll
end Go.Proofs.Ytlekhibddmbjnaa
