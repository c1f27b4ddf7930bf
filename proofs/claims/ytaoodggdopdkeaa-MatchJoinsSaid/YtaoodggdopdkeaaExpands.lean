/- The walk of MatchExpands. -/
import Derived.Deep.RegionHeld3
import Derived.Test.YtaoodggdopdkeaaLaws
import Derived.Test.YtaoodggdopdkeaaExpandRef
namespace Go.Proofs.Ytaoodggdopdkeaa
open Go.RowKit

theorem grow_len {out : List UInt8} {t : Tok} (h : codeOf out t = 0) : ((grow out t).length : Int) = out.length + oneT t := by
  unfold codeOf at h
  split at h
  · cases h
  · rename_i h1
    have hr : rightB t = true := by
      cases e : rightB t
      · exact absurd (.inl e) h1
      · rfl
    have hr2 := rightB_yes hr
    unfold grow oneT
    rw [if_pos hr]
    by_cases z : t.len = 0
    · rw [if_pos z, if_pos (by omega)]; simp
    · rw [if_neg z, if_neg (by omega), copyN_length]; omega
theorem expand_len : ∀ (l : List Tok) (out r : List UInt8), expand out l = (0, r) → (r.length : Int) = out.length + sizeT l
  | [], out, r, h => by simp only [expand, Prod.mk.injEq, true_and] at h; subst h; simp [sizeT]
  | t :: l, out, r, h => by
    unfold expand at h
    split at h
    · rename_i h0
      have := expand_len l _ r h
      rw [grow_len h0] at this
      simp only [sizeT]
      omega
    · rename_i h0
      simp only [Prod.mk.injEq] at h
      exact absurd h.1 h0
set_option maxHeartbeats 1000000 in
set_option maxRecDepth 100000 in
theorem expands_no (A : Option Addr) (n c : Nat) (w : World) (hn : n ≤ 9223372036854775807) (h : 400 < n) :
    Calls Try.prog 6 #[.slice A n c] w fun e w' => e = .returned (.bool true) ∧ Below w.heap.size w w' := by
  have t1 : decide ((400 : Int) < n) = true := by simp; omega
  go_enter Try.func6, Try.ntmps6
  go_wp2_with fail
  refine (awake_any w).mono ?_
  rintro e w1 ⟨rfl, b1⟩
  have B1 := hid b1
  clear b1
  go_wp2
  go_ret
  exact ⟨rfl, B1.out⟩
set_option maxHeartbeats 2000000 in
set_option maxRecDepth 100000 in
theorem expands_yes (A : Option Addr) (c : Nat) (l : List Tok) (w : World) (hl : ReadsT w A l) (hn : l.length ≤ 400) :
    Calls Try.prog 6 #[.slice A l.length c] w fun e w' => e = .returned (.bool true) ∧ Below w.heap.size w w' := by
  have HL := hid hl
  have hwf : Hid (∀ t ∈ l, t.wf) := hid (fun t ht => by
    obtain ⟨i, hi, rfl⟩ := List.mem_iff_getElem.1 ht
    obtain ⟨_, _, _, _, _, hw⟩ := hl.2 i hi
    exact hw)
  have t1 : decide ((400 : Int) < (l.length : Int)) = false := by simp; omega
  have hll : l.length ≤ 9223372036854775807 := by omega
  clear hl
  go_enter Try.func6, Try.ntmps6
  go_wp2_with fail
  refine (expand_any A c l w HL.out).mono ?_
  rintro e w1 ⟨A2, c2, rfl, hr2, hz2, b1⟩
  have HX := hid hr2
  have B1 := hid b1
  clear hr2 hz2 b1
  go_wp2_with fail
  refine (given_any A c l w1 (HL.out.below B1.out) (by omega)).mono ?_
  rintro e w2 ⟨v, rfl, o2, b2⟩
  obtain ⟨A3, c3, rfl, hr3, hz3, _⟩ := own_readsT o2 (by omega) hwf.out
  have H3 := hid hr3
  have B2 := hid b2
  clear o2 b2 hr3 hz3
  go_wp2_with fail
  refine (expand_ref A3 c3 l w2 H3.out).mono ?_
  rintro e w3 ⟨A4, c4, rfl, hr4, hz4, b3⟩
  have HY := hid hr4
  have B3 := hid b3
  clear hr4 hz4 b3
  go_wp2_with fail
  refine (given_any A c l w3 (HL.out.below (below_trans (below_trans B1.out B2.out) B3.out)) (by omega)).mono ?_
  rintro e w4 ⟨v, rfl, o4, b4⟩
  obtain ⟨A5, c5, rfl, hr5, hz5, _⟩ := own_readsT o4 (by omega) hwf.out
  have H5 := hid hr5
  have B4 := hid (below_trans (below_trans (below_trans B1.out B2.out) B3.out) b4)
  have HL4 := hid (HL.out.below B4.out)
  have B34 := hid b4
  clear o4 b4 hr5 hz5
  obtain ⟨⟨cd, out⟩, hcd⟩ : ∃ r, expand [] l = r := ⟨_, rfl⟩
  have hlen : Hid (cd = 0 → (out.length : Int) = sizeT l) := hid (fun h => by
    subst h
    have := expand_len l [] out hcd
    simpa using this)
  rw [hcd] at HX HY ⊢
  simp only at HX HY ⊢
  clear hcd
  go_wp2
  go_loopw [27] (fun i wr => ∃ k : Nat, k ≤ l.length ∧ i = .int .i64 k ∧ Hid (Below w4.heap.size w4 wr)) (fun i _ => l.length - (intOf i).toNat)
  case atStart => exact ⟨0, Nat.zero_le _, rfl, hid (Below.refl _ _)⟩
  case round =>
    obtain ⟨k, hk, rfl, HK⟩ := hrel
    by_cases hlt : k < l.length
    · have dl : decide (k < l.length) = true := by simpa using hlt
      obtain ⟨ad, rfl, c0, c1', c2', _⟩ := (HL4.out.below HK.out).2 k hlt
      obtain ⟨ad5, rfl, d0, d1, d2, _⟩ := (H5.out.below HK.out).2 k hlt
      obtain ⟨t, ht⟩ : ∃ t, l[k] = t := ⟨_, rfl⟩
      rw [ht] at c0 c1' c2' d0 d1 d2
      have hkl : (k : Int) < (l.length : Int) := by omega
      have hk0 : (0 : Int) ≤ (k : Int) := by omega
      clear ht
      go_wp2
      obtain ⟨G, hG⟩ : ∃ G, wr.heap.size = G := ⟨_, rfl⟩
      obtain ⟨W0, hW0⟩ : ∃ W0, wr.alloc (.cells #[.int .u8 t.lit.toNat, .int .i64 t.len, .int .i64 t.back] 30) = W0 := ⟨_, rfl⟩
      have g0 := (cell_new wr #[.int .u8 t.lit.toNat, .int .i64 t.len, .int .i64 t.back] 30 (0, 0) 0).trans rfl
      have g1 := (cell_new wr #[.int .u8 t.lit.toNat, .int .i64 t.len, .int .i64 t.back] 30 (0, 0) 1).trans rfl
      have g2 := (cell_new wr #[.int .u8 t.lit.toNat, .int .i64 t.len, .int .i64 t.back] 30 (0, 0) 2).trans rfl
      have f0 := cell_past (.cells #[.int .u8 t.lit.toNat, .int .i64 t.len, .int .i64 t.back] 30) c0
      have f1 := cell_past (.cells #[.int .u8 t.lit.toNat, .int .i64 t.len, .int .i64 t.back] 30) c1'
      have f2 := cell_past (.cells #[.int .u8 t.lit.toNat, .int .i64 t.len, .int .i64 t.back] 30) c2'
      have bW : Below w4.heap.size w4 W0 := by rw [← hW0]; exact below_trans HK.out (below_new _ _)
      rw [hW0, hG] at g0 g1 g2
      rw [hW0] at f0 f1 f2
      rw [hW0, hG]
      have bWd := bW.drew
      clear hW0 hG c0 c1' c2' d0 d1 d2 bW
      go_region_held3 (fun w' => w'.cell? (ad.add (k * 3)) = some (.int .u8 t.lit.toNat) ∧ w'.cell? ⟨(ad.add (k * 3)).block, (ad.add (k * 3)).off + 1, none⟩ = some (.int .i64 t.len) ∧ w'.cell? ⟨(ad.add (k * 3)).block, (ad.add (k * 3)).off + 2, none⟩ = some (.int .i64 t.back) ∧ w'.cell? ⟨G, 0, none⟩ = some (.int .u8 t.lit.toNat) ∧ w'.cell? ⟨G, 1, none⟩ = some (.int .i64 t.len) ∧ w'.cell? ⟨G, 2, none⟩ = some (.int .i64 t.back) ∧ Below w4.heap.size w4 w') (first | (refine ⟨cell_below hb ?_, cell_below hb ?_, cell_below hb ?_, cell_below hb ?_, cell_below hb ?_, cell_below hb ?_, below_trans ?_ hb⟩ <;> (first | assumption | simp [*])) | go_keep)
        (first | (go_at_call 15; refine (right_any t _).mono ?_; rintro e w' ⟨rfl, hb⟩) | (go_at_call 16; refine (right_ref t _).mono ?_; rintro e w' ⟨rfl, hb⟩))
      have BL := hid (below_trans (below_trans bWd ‹Below W0.drew.heap.size W0.drew _›) hb)
      clear hb bWd g0 g1 g2 f0 f1 f2
      go_wp2
      go_roundw
      case rel => exact ⟨k + 1, by omega, by go_num, BL⟩
      case measure => simp [intOf]; omega
    · have dl : decide (k < l.length) = false := by simpa using hlt
      have B5 := below_trans B4.out HK.out
      have x1 := conv_bytes (c := c2) (HX.out.below (below_trans (below_trans (below_trans B2.out B3.out) B34.out) HK.out))
      have x2 := conv_bytes (c := c4) (HY.out.below (below_trans B34.out HK.out))
      have H5b := hid B5
      have HL5 := hid (HL.out.below B5)
      clear B5
      by_cases h0 : cd = 0
      · have hlen2 := hlen.out h0
        subst h0
        have HLEN := hid hlen2
        clear hlen2
        go_wp2_with fail
        refine (size_any A c l wr HL5.out (by omega)).mono ?_
        rintro e w5 ⟨rfl, b5⟩
        rw [← HLEN.out]
        have B5 := hid b5
        clear b5 x1 x2
        go_wp2_with fail
        refine (awake_any w5).mono ?_
        rintro e w6 ⟨rfl, b6⟩
        have B6 := hid b6
        clear b6
        go_wp2
        go_ret
        exact ⟨rfl, below_trans (below_trans H5b.out B5.out) B6.out⟩
      · have d0 : ((cd : Int) == 0) = false := by simp; omega
        go_wp2_with fail
        refine (awake_any wr).mono ?_
        rintro e w6 ⟨rfl, b6⟩
        have B6 := hid b6
        clear b6 x1 x2
        go_wp2
        go_ret
        exact ⟨rfl, below_trans H5b.out B6.out⟩
theorem expands_any (A : Option Addr) (c : Nat) (l : List Tok) (w : World) (hl : ReadsT w A l) (_ : A = none → c = 0) (_ : l.length ≤ c) :
    Calls Try.prog 6 #[.slice A l.length c] w fun e w' => e = .returned (.bool true) ∧ Below w.heap.size w w' := by
  by_cases h : l.length ≤ 400
  · exact expands_yes A c l w hl h
  · exact expands_no A _ c w hl.1 (by omega)
end Go.Proofs.Ytaoodggdopdkeaa
