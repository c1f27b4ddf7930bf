/- The walk of MatchLong. -/
import Derived.Laws.MakeOwn
import Derived.Test.YtaoodggdopdkeaaLaws
namespace Go.Proofs.Ytaoodggdopdkeaa
open Go.RowKit

theorem alike_same (n : Nat) (c : UInt8) {p q : Nat} (hpq : p < q) (hq : q ≤ n) : Plain.alike (List.replicate n c) p q = min 258 (n - q) := by
  obtain ⟨h1, h2, h3, h4⟩ := Plain.alike_spec (List.replicate n c) p q (by simpa using hq)
  simp only [List.length_replicate] at h2 h4
  rcases h4 with h4 | h4 | h4
  · omega
  · omega
  · have : ¬ q + Plain.alike (List.replicate n c) p q < n := fun hlt => h4 (by
      rw [List.getElem?_replicate, List.getElem?_replicate, if_pos (by omega), if_pos hlt])
    omega
theorem best_same (n : Nat) (c : UInt8) {q : Nat} (hq : q ≤ n) : ∀ m, m + 1 ≤ q → Plain.bestTo (List.replicate n c) q (m + 1) = if 2 < min 258 (n - q) then (min 258 (n - q), 1) else (0, 0)
  | 0, hm => by
    show Plain.step _ q (0, 0) 1 = _
    unfold Plain.step
    rw [alike_same n c (by omega) hq]
    by_cases h : 2 < min 258 (n - q)
    · rw [if_pos h, if_pos ⟨h, by show 0 < _; omega⟩]
    · rw [if_neg h, if_neg (fun x => h x.1)]
  | m + 1, hm => by
    show Plain.step _ q (Plain.bestTo _ q (m + 1)) (m + 2) = _
    rw [best_same n c hq m (by omega)]
    unfold Plain.step
    rw [alike_same n c (by omega) hq]
    by_cases h : 2 < min 258 (n - q)
    · rw [if_pos h, if_neg (fun x => Nat.lt_irrefl _ x.2)]
    · rw [if_neg h, if_neg (fun x => h x.1)]
/-- what is left behind the first literal -/
def longRest (c : UInt8) : Nat → Nat → List Tok
  | 0, _ => []
  | f + 1, left => if left = 0 then [] else if 3 ≤ left then ⟨0, ((min 258 left : Nat) : Int), 1⟩ :: longRest c f (left - min 258 left) else ⟨c, 0, 0⟩ :: longRest c f (left - 1)
theorem toks_rest (n : Nat) (c : UInt8) {win : Nat} (hw : 1 ≤ win) : ∀ f q, 1 ≤ q → q ≤ n → (Plain.toksF (List.replicate n c) win f q).map ofTk = longRest c f (n - q)
  | 0, _, _, _ => rfl
  | f + 1, q, h1, hq => by
    by_cases hlt : q < n
    · have hb := best_same n c hq (min win q - 1) (by omega)
      rw [show min win q - 1 + 1 = min win q by omega] at hb
      have e : Plain.toksF (List.replicate n c) win (f + 1) q = Plain.tokAt (List.replicate n c) win q :: Plain.toksF (List.replicate n c) win f (q + max (Plain.tokAt (List.replicate n c) win q).len 1) := by
        show (if q < (List.replicate n c).length then _ else _) = _
        rw [if_pos (by simpa using hlt)]
      have hgd : (List.replicate n c).getD q 0 = c := by simp [hlt]
      unfold longRest
      rw [if_neg (by omega), e]
      by_cases h : 2 < min 258 (n - q)
      · rw [if_pos h] at hb
        have ht : Plain.tokAt (List.replicate n c) win q = ⟨0, min 258 (n - q), 1⟩ := by
          unfold Plain.tokAt
          rw [hb, if_neg (by show ¬ min 258 (n - q) = 0; omega)]
        rw [if_pos (by omega), ht, List.map_cons]
        show _ :: (Plain.toksF (List.replicate n c) win f (q + max (min 258 (n - q)) 1)).map ofTk = _
        rw [toks_rest n c hw f _ (by omega) (by omega), show n - (q + max (min 258 (n - q)) 1) = n - q - min 258 (n - q) by omega]
        rfl
      · rw [if_neg h] at hb
        have ht : Plain.tokAt (List.replicate n c) win q = ⟨c, 0, 0⟩ := by
          unfold Plain.tokAt
          rw [hb, if_pos rfl, hgd]
        rw [if_neg (by omega), ht, List.map_cons]
        show _ :: (Plain.toksF (List.replicate n c) win f (q + 1)).map ofTk = _
        rw [toks_rest n c hw f _ (by omega) (by omega), show n - (q + 1) = n - q - 1 by omega]
        rfl
    · obtain rfl : q = n := by omega
      have e : Plain.toksF (List.replicate q c) win (f + 1) q = [] := by
        show (if q < (List.replicate q c).length then _ else _) = _
        rw [if_neg (by simp)]
      rw [e]
      unfold longRest
      rw [if_pos (by omega)]
      rfl
theorem toks_long {n : Nat} (c : UInt8) {win : Nat} (hn : 1 ≤ n) (hw : 1 ≤ win) : allToks (List.replicate n c) win = ⟨c, 0, 0⟩ :: longRest c (n - 1) (n - 1) := by
  unfold allToks Plain.toks
  rw [List.length_replicate]
  obtain ⟨f, rfl⟩ : ∃ f, n = f + 1 := ⟨n - 1, by omega⟩
  have e : Plain.toksF (List.replicate (f + 1) c) win (f + 1) 0 = Plain.tokAt (List.replicate (f + 1) c) win 0 :: Plain.toksF (List.replicate (f + 1) c) win f (0 + max (Plain.tokAt (List.replicate (f + 1) c) win 0).len 1) := by
    show (if 0 < (List.replicate (f + 1) c).length then _ else _) = _
    rw [if_pos (by simp)]
  have ht : Plain.tokAt (List.replicate (f + 1) c) win 0 = ⟨c, 0, 0⟩ := by
    unfold Plain.tokAt
    rw [show min win 0 = 0 by omega]
    show Plain.Tk.mk (if (0 : Nat) = 0 then _ else _) 0 0 = _
    rw [if_pos rfl]
    simp
  rw [e, ht, List.map_cons]
  show _ :: (Plain.toksF (List.replicate (f + 1) c) win f 1).map ofTk = _
  rw [toks_rest (f + 1) c hw f 1 (by omega) (by omega)]
  rfl
theorem longRest_len (c : UInt8) : ∀ f left, (longRest c f left).length ≤ left
  | 0, _ => by simp [longRest]
  | f + 1, left => by
    unfold longRest
    split
    · simp
    · split
      · have := longRest_len c f (left - min 258 left); simp only [List.length_cons]; omega
      · have := longRest_len c f (left - 1); simp only [List.length_cons]; omega
/-- gone through to its end, nothing is left -/
theorem longRest_end (c : UInt8) : ∀ f left, left ≤ f → longRest c f left = [] → left = 0
  | 0, left, h, _ => by omega
  | f + 1, left, h, he => by
    unfold longRest at he
    split at he
    · assumption
    · split at he <;> cases he
theorem ofNat_toNat {n : Int} (h : 0 ≤ n ∧ n ≤ 255) : ((UInt8.ofNat n.toNat).toNat : Int) = n := by
  simp only [UInt8.toNat_ofNat']
  omega
theorem u16_bd {n : Int} (h : (Lit.int .u16 n).wf = true) : 0 ≤ n ∧ n ≤ 65535 := by
  simpa [Lit.wf, IntKind.min, IntKind.max, IntKind.signed, IntKind.bits] using h
theorem add_none (g o j : Nat) : (⟨g, o, none⟩ : Addr).add j = ⟨g, o + j, none⟩ := by unfold Addr.add; split <;> simp_all
/-- behind the first token -/
theorem readsT_tail {w : World} {ad : Addr} {t : Tok} {l : List Tok} (h : ReadsT w (some ad) (t :: l)) : ReadsT w (some ⟨ad.block, ad.off + 3, none⟩) l := by
  refine ⟨by have := h.1; simp at this; omega, fun i hi => ?_⟩
  obtain ⟨ad', e, c0, c1, c2, hw⟩ := h.2 (i + 1) (by simpa using hi)
  cases e
  have ea : ad.add ((i + 1) * 3) = (⟨ad.block, ad.off + 3, none⟩ : Addr).add (i * 3) := by
    unfold Addr.add
    split
    · omega
    · split
      · have h0 : i = 0 := by omega
        subst h0; rfl
      · simp; omega
  rw [ea] at c0 c1 c2
  simp only [List.getElem_cons_succ] at c0 c1 c2 hw
  exact ⟨_, rfl, c0, c1, c2, hw⟩
set_option maxHeartbeats 1000000 in
set_option maxRecDepth 100000 in
theorem long_no (c : Int) (k : Nat) (win : Int) (w : World) (hk : k ≤ 65535) (h : win < 1 ∨ 32768 < win ∨ k % 2000 = 0) :
    Calls Try.prog 4 #[.int .u8 c, .int .u16 k, .int .i64 win] w fun e w' => e = .returned (.bool true) ∧ Below w.heap.size w w' := by
  obtain ⟨n, hn⟩ : ∃ n, k % 2000 = n := ⟨_, rfl⟩
  have hm : (k : Int) % 2000 = (n : Int) := by omega
  have hm2 : (k : Int).tmod 2000 = (n : Int) := by rw [Int.tmod_eq_emod_of_nonneg (by omega)]; exact hm
  have hn2 : n ≤ 1999 := by omega
  rw [hn] at h
  clear hn
  by_cases h1 : win < 1
  · clear h
    go_enter Try.func4, Try.ntmps4
    go_wp2_with fail
    refine (awake_any w).mono ?_
    rintro e w1 ⟨rfl, b1⟩
    have B1 := hid b1
    clear b1
    go_wp2
    go_ret
    exact ⟨rfl, B1.out⟩
  · by_cases h2 : 32768 < win
    · clear h
      go_enter Try.func4, Try.ntmps4
      go_wp2_with fail
      refine (awake_any w).mono ?_
      rintro e w1 ⟨rfl, b1⟩
      have B1 := hid b1
      clear b1
      go_wp2
      go_ret
      exact ⟨rfl, B1.out⟩
    · have h3 : n = 0 := by omega
      subst h3
      clear h
      go_enter Try.func4, Try.ntmps4
      go_wp2_with fail
      refine (awake_any w).mono ?_
      rintro e w1 ⟨rfl, b1⟩
      have B1 := hid b1
      clear b1
      go_wp2
      go_ret
      exact ⟨rfl, B1.out⟩
theorem info5' : (Try.prog.info? 5).map (fun i => (i.zero, i.size, i.bytes)) = some (some (.int .u8 0), 1, 1) := by kernel_rfl
set_option maxHeartbeats 4000000 in
set_option maxRecDepth 100000 in
theorem long_yes (cu : UInt8) (k win : Nat) (w : World) (hk : k ≤ 65535) (h1 : 1 ≤ win) (h2 : win ≤ 32768) (h3 : k % 2000 ≠ 0) :
    Calls Try.prog 4 #[.int .u8 cu.toNat, .int .u16 k, .int .i64 win] w fun e w' => e = .returned (.bool true) ∧ Below w.heap.size w w' := by
  obtain ⟨n, hn⟩ : ∃ n, k % 2000 = n := ⟨_, rfl⟩
  have hm : (k : Int) % 2000 = (n : Int) := by omega
  have hm2 : (k : Int).tmod 2000 = (n : Int) := by rw [Int.tmod_eq_emod_of_nonneg (by omega)]; exact hm
  have hn2 : n ≤ 1999 := by omega
  have hn1 : 1 ≤ n := by omega
  have t2 : decide ((win : Int) < 1) = false := by simp; omega
  have t3 : decide ((32768 : Int) < (win : Int)) = false := by simp; omega
  have t4 : ((n : Int) == 0) = false := by simp; omega
  obtain ⟨i5, hi5, hz5, hs5, hb5⟩ := info_parts info5
  obtain ⟨CS, hCS⟩ : ∃ CS, madeCells (Value.int .u8 0).cells (((n : Nat) : Int).toNat * i5.size) = CS := ⟨_, rfl⟩
  have hmk := run_make (P := Try.prog) w 22 5 i5 (.int .u8 0) Try.underlying22 hi5 hz5 .i64 .i64 (n : Int) (n : Int) (by omega) (Int.le_refl _) (by rw [hb5]; omega) (by omega)
  have hCl : CS.size = n := by rw [← hCS, size_madeCells, hs5]; simp
  rw [hCS] at hmk
  simp only [Int.toNat_natCast] at hmk
  have HCL := hid hCl
  obtain ⟨x, hx⟩ : ∃ x : Int, (cu.toNat : Int) = x := ⟨_, rfl⟩
  have HXC := hid hx
  rw [hx]
  clear hn h3 hCl hCS hz5 hs5 hb5 hi5 hx
  go_enter Try.func4, Try.ntmps4
  go_wp2
  clear hmk
  obtain ⟨N, hN⟩ : ∃ N, w.heap.size = N := ⟨_, rfl⟩
  have HN := hid hN
  have hbl : Hid ((w.alloc (.cells CS 5)).heap[N]? = some (.cells CS 5 (0, 0))) := hid (by rw [← hN]; exact block_new _ _)
  have hb0 : Hid (Below N w (w.alloc (.cells CS 5))) := hid (by rw [← hN]; exact below_new _ _)
  rw [hN]
  clear hN
  go_loopw [32] (fun i wr => ∃ (j : Nat) (cs : Array Value), j ≤ n ∧ i = .int .i64 j ∧ Hid (wr.heap[N]? = some (.cells cs 5 (0, 0))) ∧ Hid (cs.size = n) ∧ Hid (∀ i, i < j → cs[i]? = some (.int .u8 x)) ∧ Hid (Below N w wr)) (fun i _ => n - (intOf i).toNat)
  case atStart => exact ⟨0, CS, Nat.zero_le _, rfl, hbl, HCL, hid (fun i hi => absurd hi (Nat.not_lt_zero _)), hb0⟩
  case round =>
    obtain ⟨j, cs, hj, rfl, HBK, HSZ, HCS, HBL⟩ := hrel
    by_cases hlt : j < n
    · have dl : decide (j < n) = true := by simpa using hlt
      obtain ⟨y, hy⟩ : ∃ y, cs[j]? = some y := ⟨cs[j]'(by rw [HSZ.out]; exact hlt), by simp⟩
      have hcell : wr.cell? ⟨N, j, none⟩ = some y := by rw [cell_of_row wr N j _ _ _ HBK.out]; exact hy
      have hfr := frozen_of_row wr N j _ _ HBK.out
      clear hy
      go_wp2
      have hb9 := heap_setCell_same wr N j _ 5 (.int .u8 x) HBK.out
      go_roundw
      case rel => exact ⟨j + 1, _, by omega, by go_num, hid hb9, hid (by simpa using HSZ.out), hid (fun i hi => by
        by_cases e : i = j
        · subst e; rw [Array.getElem?_setIfInBounds_self_of_lt (by rw [HSZ.out]; exact hlt)]
        · rw [Array.getElem?_setIfInBounds_ne (by omega)]; exact HCS.out i (by omega)), hid (HBL.out.setCell (p := ⟨N, j, none⟩) (Nat.le_refl _) _)⟩
      case measure => simp [intOf]; omega
    · obtain rfl : j = n := by omega
      have dl : decide (j < j) = false := by simp
      have hrd : Reads wr (some ⟨N, 0, none⟩) (bytesV (List.replicate j cu)) := ⟨by simp [bytesV]; omega, fun i hi => ⟨_, rfl, by
        have hij : i < j := by simpa [bytesV] using hi
        rw [add_plain', cell_of_row wr N i _ _ _ HBK.out, HCS.out i hij]
        simp [bytesV, HXC.out]⟩⟩
      have HRD := hid hrd
      clear hrd
      have hrl : (List.replicate j cu).length = j := by simp
      have hpr := parse_reads (some ⟨N, 0, none⟩) j win (List.replicate j cu) wr HRD.out (fun h => by cases h) (by simp) (by simp; omega) h1 h2
      rw [toks_long cu hn1 h1, hrl] at hpr
      have HPR := hid hpr
      clear hpr hrl
      go_wp2_with fail
      refine HPR.out.mono ?_
      rintro e w1 ⟨A1, c1, rfl, hr, hz, hcl, b1⟩
      obtain ⟨ad, rfl, x0, x1, x2, _⟩ := hr.2 0 (by simp)
      have HRT := hid (readsT_tail hr)
      have hll := longRest_len cu (j - 1) (j - 1)
      have HL0 : Hid (longRest cu (j - 1) (j - 1) = longRest cu (j - 1) (j - 1)) := hid rfl
      obtain ⟨rest, hrest⟩ : ∃ l, longRest cu (j - 1) (j - 1) = l := ⟨_, rfl⟩
      rw [hrest] at HRT hcl hll ⊢
      have HREST := hid hrest
      have B1 := hid (below_tr HBL.out (by have := HBL.out.size; rw [HN.out] at this; exact this) b1)
      have p0 : w1.cell? ad = some (.int .u8 x) := by rw [← HXC.out]; exact x0
      have p1 : w1.cell? ⟨ad.block, ad.off + 1, none⟩ = some (.int .i64 0) := x1
      have p2 : w1.cell? ⟨ad.block, ad.off + 2, none⟩ = some (.int .i64 0) := x2
      simp only [List.length_cons] at hcl ⊢
      clear hr b1 hz x0 x1 x2 hrest
      by_cases hc1 : c1 = 1
      · subst hc1
        obtain rfl : rest = [] := List.eq_nil_of_length_eq_zero (by omega)
        have hj0 := longRest_end cu (j - 1) (j - 1) (Nat.le_refl _) HREST.out
        have hj1 : (j : Int) - 1 = 0 := by omega
        simp only [List.length_nil, Nat.zero_add]
        clear hcl hll hj0
        go_wp2
        go_loopw [11, 59] (fun l i wr => l = .int .i64 0 ∧ i = .int .i64 0 ∧ wr = w1) (fun _ _ _ => 0)
        case atStart => exact ⟨rfl, rfl, rfl⟩
        case round =>
          obtain ⟨rfl, rfl, rfl⟩ := hrel
          go_wp2_with fail
          refine (awake_any wr).mono ?_
          rintro e w6 ⟨rfl, b6⟩
          have B6 := hid b6
          clear b6
          go_wp2
          go_ret
          exact ⟨rfl, below_trans (show Below w.heap.size w wr by rw [HN.out]; exact B1.out) B6.out⟩
      · have hc2 : c1 - 1 = c1 - 1 := rfl
        clear hc2
        go_wp2
        clear p0 p1 p2
        go_loopw [11, 59] (fun l i wr => ∃ (a left : Nat), i = .int .i64 a ∧ l = .int .i64 left ∧ left ≤ 2000 ∧ a ≤ rest.length ∧ Hid (∃ f, left ≤ f ∧ rest.drop a = longRest cu f left) ∧ Hid (Below w1.heap.size w1 wr)) (fun _ i _ => rest.length - (intOf i).toNat)
        case atStart => exact ⟨0, j - 1, rfl, congrArg (Value.int .i64) (by omega), by omega, Nat.zero_le _, hid ⟨j - 1, Nat.le_refl _, HREST.out.symm⟩, hid (Below.refl _ _)⟩
        case round =>
          obtain ⟨a, left, rfl, rfl, hle, ha, HDR, HK⟩ := hrel
          obtain ⟨f, hf, hdr0⟩ := HDR.out
          by_cases hlt2 : a < rest.length
          · have dl2 : decide (a < rest.length) = true := by simpa using hlt2
            rw [List.drop_eq_getElem_cons hlt2] at hdr0
            obtain ⟨f, rfl⟩ : ∃ f', f = f' + 1 := by
              cases f with
              | zero => cases hdr0
              | succ f => exact ⟨f, rfl⟩
            unfold longRest at hdr0
            have hl0 : left ≠ 0 := fun e => by rw [if_pos e] at hdr0; cases hdr0
            rw [if_neg hl0] at hdr0
            by_cases h3 : 3 ≤ left
            · rw [if_pos h3] at hdr0
              obtain ⟨htok, hdr⟩ := List.cons.inj hdr0
              have d1 : decide ((3 : Int) ≤ (left : Int)) = true := by simp; omega
              have d0 : decide ((left : Int) < 3) = false := by simp; omega
              by_cases h4 : left < 258
              · rw [show min 258 left = left by omega] at htok hdr
                have d2 : decide ((left : Int) < 258) = true := by simp; omega
                have d2' : decide ((258 : Int) < (left : Int)) = false := by simp; omega
                have d2'' : decide ((258 : Int) ≤ (left : Int)) = false := by simp; omega
                have d3 : decide ((left : Int) < 1) = false := by simp; omega
                have HDRN := hid hdr
                clear hdr0 hdr HDR
                obtain ⟨ad2, e2, c0, c1', c2', _⟩ := (HRT.out.below HK.out).2 a hlt2
                cases e2
                rw [htok, add_none] at c0 c1' c2'
                have y0 : wr.cell? ⟨ad.block, ad.off + 3 + a * 3, none⟩ = some (.int .u8 0) := c0
                have y1 : wr.cell? ⟨ad.block, ad.off + 3 + a * 3 + 1, none⟩ = some (.int .i64 left) := c1'
                have y2 : wr.cell? ⟨ad.block, ad.off + 3 + a * 3 + 2, none⟩ = some (.int .i64 1) := c2'
                have HK2 := hid (below_trans HK.out (below_new wr (.cells #[.int .u8 0, .int .i64 left, .int .i64 1] 33)))
                clear htok c0 c1' c2'
                go_wp2
                go_roundw
                case rel => exact ⟨a + 1, 0, by go_num, congrArg (Value.int .i64) (by omega), by omega, by omega, hid ⟨f, by omega, by rw [← Nat.sub_self left]; exact HDRN.out⟩, HK2⟩
                case measure => simp [intOf]; omega
              · rw [show min 258 left = 258 by omega] at htok hdr
                have d2 : decide ((left : Int) < 258) = false := by simp; omega
                have d2'' : decide ((258 : Int) ≤ (left : Int)) = true := by simp; omega
                have HDRN := hid hdr
                clear hdr0 hdr HDR
                obtain ⟨ad2, e2, c0, c1', c2', _⟩ := (HRT.out.below HK.out).2 a hlt2
                cases e2
                rw [htok, add_none] at c0 c1' c2'
                have y0 : wr.cell? ⟨ad.block, ad.off + 3 + a * 3, none⟩ = some (.int .u8 0) := c0
                have y1 : wr.cell? ⟨ad.block, ad.off + 3 + a * 3 + 1, none⟩ = some (.int .i64 258) := c1'
                have y2 : wr.cell? ⟨ad.block, ad.off + 3 + a * 3 + 2, none⟩ = some (.int .i64 1) := c2'
                have HK2 := hid (below_trans HK.out (below_new wr (.cells #[.int .u8 0, .int .i64 258, .int .i64 1] 33)))
                clear htok c0 c1' c2'
                go_wp2
                go_roundw
                case rel => exact ⟨a + 1, left - 258, by go_num, congrArg (Value.int .i64) (by omega), by omega, by omega, hid ⟨f, by omega, HDRN.out⟩, HK2⟩
                case measure => simp [intOf]; omega
            · rw [if_neg h3] at hdr0
              obtain ⟨htok, hdr⟩ := List.cons.inj hdr0
              have d1 : decide ((3 : Int) ≤ (left : Int)) = false := by simp; omega
              have d0 : decide ((left : Int) < 3) = true := by simp; omega
              have HDRN := hid hdr
              clear hdr0 hdr HDR
              obtain ⟨ad2, e2, c0, c1', c2', _⟩ := (HRT.out.below HK.out).2 a hlt2
              cases e2
              rw [htok, add_none] at c0 c1' c2'
              have y0 : wr.cell? ⟨ad.block, ad.off + 3 + a * 3, none⟩ = some (.int .u8 x) := by rw [← HXC.out]; exact c0
              have y1 : wr.cell? ⟨ad.block, ad.off + 3 + a * 3 + 1, none⟩ = some (.int .i64 0) := c1'
              have y2 : wr.cell? ⟨ad.block, ad.off + 3 + a * 3 + 2, none⟩ = some (.int .i64 0) := c2'
              have HK2 := hid (below_trans HK.out (below_new wr (.cells #[.int .u8 x, .int .i64 0, .int .i64 0] 33)))
              clear htok c0 c1' c2'
              go_wp2
              go_roundw
              case rel => exact ⟨a + 1, left - 1, by go_num, congrArg (Value.int .i64) (by omega), by omega, by omega, hid ⟨f, by omega, HDRN.out⟩, HK2⟩
              case measure => simp [intOf]; omega
          · have dl2 : decide (a < rest.length) = false := by simpa using hlt2
            rw [List.drop_eq_nil_of_le (by omega)] at hdr0
            have hl0 := longRest_end cu f left hf hdr0.symm
            subst hl0
            clear hdr0 HDR
            go_wp2_with fail
            refine (awake_any wr).mono ?_
            rintro e w6 ⟨rfl, b6⟩
            have B6 := hid b6
            clear b6
            go_wp2
            go_ret
            exact ⟨rfl, below_trans (below_trans (show Below w.heap.size w w1 by rw [HN.out]; exact B1.out) HK.out) B6.out⟩
theorem long_any (c k win : Int) (w : World) (hc : 0 ≤ c ∧ c ≤ 255) (hk : 0 ≤ k ∧ k ≤ 65535) :
    Calls Try.prog 4 #[.int .u8 c, .int .u16 k, .int .i64 win] w fun e w' => e = .returned (.bool true) ∧ Below w.heap.size w w' := by
  obtain ⟨m, rfl⟩ := Int.eq_ofNat_of_zero_le hk.1
  by_cases h : 1 ≤ win ∧ win ≤ 32768 ∧ m % 2000 ≠ 0
  · obtain ⟨h1, h2, h3⟩ := h
    obtain ⟨n, rfl⟩ := Int.eq_ofNat_of_zero_le (show 0 ≤ win by omega)
    have := long_yes (UInt8.ofNat c.toNat) m n w (by omega) (by omega) (by omega) h3
    rw [ofNat_toNat hc] at this
    exact this
  · exact long_no c m win w (by omega) (by omega)
end Go.Proofs.Ytaoodggdopdkeaa
