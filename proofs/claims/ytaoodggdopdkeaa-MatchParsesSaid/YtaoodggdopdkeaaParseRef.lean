/- The reference's Parse is the plain law's row of tokens, too. -/
import Derived.Test.YtaoodggdopdkeaaAwake
namespace Go.Proofs.Ytaoodggdopdkeaa
open Go.RowKit

/-- one more place looked at: as the reference does it -/
theorem step_hit {b : List UInt8} {q m n bk : Nat} {t1 t2 : Nat} (hbk : m + 1 = bk) (ht : Plain.bestTo b q m = (t1, t2)) (hn : Plain.alike b (q - (m + 1)) q = n) (h : 2 < n ∧ t1 < n) : Plain.bestTo b q (m + 1) = (n, bk) := by
  subst hbk
  show Plain.step b q (Plain.bestTo b q m) (m + 1) = _
  unfold Plain.step
  rw [ht, hn, if_pos h]
theorem step_miss {b : List UInt8} {q m n : Nat} {t1 t2 : Nat} (ht : Plain.bestTo b q m = (t1, t2)) (hn : Plain.alike b (q - (m + 1)) q = n) (h : ¬ (2 < n ∧ t1 < n)) : Plain.bestTo b q (m + 1) = (t1, t2) := by
  show Plain.step b q (Plain.bestTo b q m) (m + 1) = _
  unfold Plain.step
  rw [ht, hn, if_neg h]
/-- the token under way: a literal, or the best match yet -/
def tokOf (b : List UInt8) (q : Nat) (t : Nat × Nat) : Tok := ⟨if t.1 = 0 then b.getD q 0 else 0, t.1, t.2⟩
def tokA (t : Tok) : Array Value := #[.int .u8 t.lit.toNat, .int .i64 t.len, .int .i64 t.back]
theorem tokA_hit (b : List UInt8) (q m : Nat) {k : Nat} (hk : k ≠ 0) : tokA (tokOf b q (k, m)) = #[.int .u8 0, .int .i64 k, .int .i64 m] := by
  unfold tokA tokOf
  simp [hk]
theorem tokOf_at (b : List UInt8) (win q : Nat) : ofTk (Plain.tokAt b win q) = tokOf b q (Plain.bestTo b q (min win q)) := rfl
set_option maxHeartbeats 4000000 in
set_option maxRecDepth 100000 in
theorem refparse (A : Option Addr) (c win : Nat) (b : List UInt8) (w : World) (hb : Reads w A (bytesV b)) (hn : b.length ≤ 1000000) (h2 : win ≤ 32768) :
    Calls Try.prog 11 #[.slice A b.length c, .int .i64 win] w fun e w' => ∃ v, e = .returned v ∧ w'.ownsRow w.heap.size 30 3 v (allToks b win).length (flatT (allToks b win)) ∧ Below w.heap.size w w' := by
  have HB := hid hb
  clear hb
  obtain ⟨N, hN⟩ : ∃ N, w.heap.size = N := ⟨_, rfl⟩
  have HN := hid hN
  rw [hN]
  clear hN
  go_enter Try.func11, Try.ntmps11
  go_wp2
  go_loopw [5, 6] (fun v i wr => ∃ (q fuel : Nat) (ts : List Tok), i = .int .i64 q ∧ q ≤ b.length ∧ b.length - q ≤ fuel ∧ Hid (ts ++ (Plain.toksF b win fuel q).map ofTk = allToks b win) ∧ Hid (wr.ownsRow N 30 3 v ts.length (flatT ts)) ∧ Hid (Below N w wr)) (fun _ i _ => b.length - (intOf i).toNat)
  case atStart => exact ⟨0, b.length, [], rfl, by omega, by omega, hid rfl, hid (World.ownsRow_nil _ _ _ _), hid (by rw [← HN.out]; exact Below.refl _ _)⟩
  case round =>
    obtain ⟨q, fuel, ts, rfl, hq, hfu, HT, HO, HBL⟩ := hrel
    by_cases hlt : q < b.length
    · have dl : decide (q < b.length) = true := by simpa using hlt
      have hNs : N ≤ wr.heap.size := by have := HBL.out.size; rw [HN.out] at this; exact this
      obtain ⟨ad, rfl, hc⟩ := (HB.out.below (by rw [HN.out]; exact HBL.out)).2 q (by simpa [bytesV] using hlt)
      have bq : wr.cell? (ad.add q) = some (.int .u8 (b[q]).toNat) := by simpa [bytesV] using hc
      have hgd : b.getD q 0 = b[q] := by simp [hlt]
      obtain ⟨y, hy⟩ : ∃ y, b[q] = y := ⟨_, rfl⟩
      rw [hy] at bq hgd
      have HGD := hid hgd
      have HNs := hid hNs
      clear hc hy hgd hNs
      go_wp2
      obtain ⟨G, hG⟩ : ∃ G, wr.heap.size = G := ⟨_, rfl⟩
      obtain ⟨W0, hW0⟩ : ∃ W0, wr.alloc (.cells #[.int .u8 y.toNat, .int .i64 0, .int .i64 0] 30) = W0 := ⟨_, rfl⟩
      have g0 : W0.heap[G]? = some (.cells #[.int .u8 y.toNat, .int .i64 0, .int .i64 0] 30 (0, 0)) := by rw [← hW0, ← hG]; exact block_new _ _
      have bW := HBL.out.alloc HNs.out (.cells #[.int .u8 y.toNat, .int .i64 0, .int .i64 0] 30)
      have oW := HO.out.alloc (.cells #[.int .u8 y.toNat, .int .i64 0, .int .i64 0] 30)
      have hgo : ∀ g, u5.ownBlock = some g → g ∉ [G] := fun g hg => by have := (own_block_lt HO.out hg).2; simp; omega
      rw [hW0] at bW oW
      rw [hW0, hG]
      have HGO := hid hgo
      have HNG : Hid (N ≤ G) := hid (by rw [← hG]; exact HNs.out)
      have HG0 : Hid (W0.heap[G]? = some (.cells (tokA (tokOf b q (Plain.bestTo b q 0))) 30 (0, 0))) := hid (by
        have e : tokA (tokOf b q (Plain.bestTo b q 0)) = #[.int .u8 y.toNat, .int .i64 0, .int .i64 0] := by
          show #[Value.int .u8 (if (0 : Nat) = 0 then b.getD q 0 else 0).toNat, _, _] = _
          rw [if_pos rfl, HGD.out]; rfl
        rw [e]; exact g0)
      have BW := hid bW
      have OW := hid oW
      clear hG hW0 g0 bW oW hgo
      go_loopw [8] (fun i wr2 => ∃ m bk : Nat, m ≤ win ∧ m ≤ q ∧ i = .int .i64 bk ∧ Hid (m + 1 = bk) ∧ Hid (wr2.heap[G]? = some (.cells (tokA (tokOf b q (Plain.bestTo b q m))) 30 (0, 0))) ∧ Hid (wr2.ownsRow N 30 3 u5 ts.length (flatT ts)) ∧ Hid (Below N w wr2)) (fun i _ => (win + 1 - intOf i).toNat)
      case atStart => exact ⟨0, 1, by omega, by omega, rfl, hid rfl, HG0, OW, BW⟩
      case round =>
        obtain ⟨m, bk, hmw, hmq, rfl, HBK, HG2, HO2, HB2⟩ := hrel
        have hbk1 : m < bk := by have := HBK.out; omega
        have hbk2 : bk ≤ m + 1 := by have := HBK.out; omega
        obtain ⟨wr2, rfl⟩ : ∃ wo : World, wo = wr := ⟨_, rfl⟩
        have HN2 : Hid (N ≤ wr2.heap.size) := hid (by have := HB2.out.size; rw [HN.out] at this; exact this)
        obtain ⟨t, ht⟩ : ∃ t, Plain.bestTo b q m = t := ⟨_, rfl⟩
        have HT12 := hid ht
        rw [ht] at HG2
        clear ht
        obtain ⟨t1, t2⟩ := t
        obtain ⟨lv, hlv⟩ : ∃ x : Int, ((tokOf b q (t1, t2)).lit.toNat : Int) = x := ⟨_, rfl⟩
        have HG : Hid (wr2.heap[G]? = some (.cells #[.int .u8 lv, .int .i64 t1, .int .i64 t2] 30 (0, 0))) := hid (by rw [← hlv]; exact HG2.out)
        have e0 : wr2.cell? ⟨G, 0, none⟩ = some (.int .u8 lv) := (cell_of_row wr2 G 0 _ _ _ HG.out).trans rfl
        have e1 : wr2.cell? ⟨G, 1, none⟩ = some (.int .i64 t1) := (cell_of_row wr2 G 1 _ _ _ HG.out).trans rfl
        have e2 : wr2.cell? ⟨G, 2, none⟩ = some (.int .i64 t2) := (cell_of_row wr2 G 2 _ _ _ HG.out).trans rfl
        have r0 := frozen_of_row wr2 G 0 _ _ HG.out
        have r1 := frozen_of_row wr2 G 1 _ _ HG.out
        have r2 := frozen_of_row wr2 G 2 _ _ HG.out
        have HLV := hid hlv
        clear hlv
        by_cases hc : m < win ∧ m < q
        · obtain ⟨hc1, hc2⟩ := hc
          obtain ⟨p, hp⟩ : ∃ p, q = p + (m + 1) := ⟨q - (m + 1), by omega⟩
          have hpq : q - (m + 1) = p := by omega
          have HBY : Hid (∀ i (hi : i < b.length), wr2.cell? (ad.add i) = some (.int .u8 (b[i]).toNat)) := hid fun i hi => by
            obtain ⟨_, e, hcc⟩ := (HB.out.below (by rw [HN.out]; exact HB2.out)).2 i (by simpa [bytesV] using hi)
            cases e
            simpa [bytesV] using hcc
          have d1' : decide (bk ≤ win) = true := by simp; omega
          have d2' : decide (bk ≤ q) = true := by simp; omega
          obtain ⟨r, hr⟩ : ∃ r, Plain.alike b p q = r := ⟨_, rfl⟩
          have HR := hid hr
          clear hr
          go_wp2
          go_loopw [9] (fun i wr3 => ∃ k : Nat, k ≤ 258 ∧ q + k ≤ b.length ∧ i = .int .i64 k ∧ Hid (Plain.alikeGo b p q (258 - k) k = r) ∧ ∃ n0, wr3 = wr2.drewN n0) (fun i _ => 258 - (intOf i).toNat)
          case atStart => exact ⟨0, by omega, by omega, rfl, HR, 0, rfl⟩
          case round =>
            obtain ⟨k, hk1, hk2, rfl, HGo, n0, rfl⟩ := hrel
            go_wp2
            by_cases c1 : k < 258
            · have d3 : decide ((k : Int) < 258) = true := by simp; omega
              by_cases c2 : q + k < b.length
              · have b1 := HBY.out (p + k) (by omega)
                have b2 := HBY.out (q + k) c2
                have x1 : b[p + k]? = some b[p + k] := List.getElem?_eq_getElem (by omega)
                have x2 : b[q + k]? = some b[q + k] := List.getElem?_eq_getElem c2
                have d4 : decide ((q : Int) + (k : Int) < (b.length : Int)) = true := by simp; omega
                by_cases c3 : b[p + k] = b[q + k]
                · have HNX := hid ((alikeGo_yes c1 c2 (by rw [x1, x2, c3])).symm.trans HGo.out)
                  rw [c3] at b1
                  obtain ⟨x, hx⟩ : ∃ x : Int, ((b[q + k]).toNat : Int) = x := ⟨_, rfl⟩
                  rw [hx] at b1 b2
                  have s1 : IntKind.i64.wrap ((q : Int) + (k : Int)) = (q : Int) + (k : Int) := IntWalk.i64_in _ (by omega)
                  have s2 : IntKind.i64.wrap ((q : Int) + (k : Int) - (bk : Int)) = (p : Int) + (k : Int) := by rw [show (q : Int) + (k : Int) - (bk : Int) = (p : Int) + (k : Int) by omega]; exact IntWalk.i64_in _ (by omega)
                  have s3 : 0 ≤ (q : Int) + (k : Int) := by omega
                  have s4 : 0 ≤ (p : Int) + (k : Int) := by omega
                  have s5 : ((q : Int) + (k : Int)).toNat = q + k := by omega
                  have s6 : ((p : Int) + (k : Int)).toNat = p + k := by omega
                  have s7 : (p : Int) + (k : Int) < (b.length : Int) := by omega
                  have s8 : (q : Int) + (k : Int) < (b.length : Int) := by omega
                  have C1 := hid c1
                  have C2 := hid c2
                  have HP := hid hp
                  clear hx x1 x2 c3 c1 c2 hp hpq
                  go_quiet (fail)
                  clear s1 s2 s3 s4 s5 s6 s7 s8
                  go_wp2
                  go_roundw
                  case rel => exact ⟨k + 1, by have := C1.out; omega, by have := C2.out; omega, by go_num, HNX, _, rfl⟩
                  case measure => have := C1.out; simp [intOf]; omega
                · have hrk := HGo.out
                  rw [alikeGo_no (fun _ _ hc => c3 (by rw [x1, x2] at hc; exact Option.some.inj hc))] at hrk
                  have HAK : Hid (Plain.alike b (q - (m + 1)) q = k) := hid (by rw [hpq, HR.out, hrk])
                  have d7 := toNat_ne c3
                  obtain ⟨x, hx⟩ : ∃ x : Int, ((b[q + k]).toNat : Int) = x := ⟨_, rfl⟩
                  obtain ⟨z, hz⟩ : ∃ z : Int, ((b[p + k]).toNat : Int) = z := ⟨_, rfl⟩
                  rw [hx] at b2 d7
                  rw [hz] at b1 d7
                  have s1 : IntKind.i64.wrap ((q : Int) + (k : Int)) = (q : Int) + (k : Int) := IntWalk.i64_in _ (by omega)
                  have s2 : IntKind.i64.wrap ((q : Int) + (k : Int) - (bk : Int)) = (p : Int) + (k : Int) := by rw [show (q : Int) + (k : Int) - (bk : Int) = (p : Int) + (k : Int) by omega]; exact IntWalk.i64_in _ (by omega)
                  have s3 : 0 ≤ (q : Int) + (k : Int) := by omega
                  have s4 : 0 ≤ (p : Int) + (k : Int) := by omega
                  have s5 : ((q : Int) + (k : Int)).toNat = q + k := by omega
                  have s6 : ((p : Int) + (k : Int)).toNat = p + k := by omega
                  have s7 : (p : Int) + (k : Int) < (b.length : Int) := by omega
                  have s8 : (q : Int) + (k : Int) < (b.length : Int) := by omega
                  clear hx hz x1 x2 c3 c1 c2 hp hpq hrk
                  go_quiet (fail)
                  clear s1 s2 s3 s4 s5 s6 s7 s8
                  by_cases hh : 2 < k ∧ t1 < k
                  · have d5 : decide ((2 : Int) < (k : Int)) = true := by simp; omega
                    have d6 : decide (t1 < k) = true := by simp; omega
                    have hnew := step_hit HBK.out HT12.out HAK.out hh
                    have HNEW := hid hnew
                    have hk0 : k ≠ 0 := by omega
                    clear hh hnew
                    go_wp2
                    have hbl := set3_block (W := wr2.drewN (n0 + nq)) HG.out (u := .int .u8 0) (v := .int .i64 k) (t := .int .i64 (bk : Int))
                    have htt : Touch [G] wr2 ((((wr2.drewN (n0 + nq)).setCell ⟨G, 0, none⟩ (.int .u8 0)).setCell ⟨G, 1, none⟩ (.int .i64 k)).setCell ⟨G, 2, none⟩ (.int .i64 (bk : Int))) :=
                      ((((Touch.of_below ((Calm.of_drewN wr2 (n0 + nq)).below _) [G]).trans (Touch.setCell _ _ _) (by simp)).trans (Touch.setCell _ _ _) (by simp)).trans (Touch.setCell _ _ _) (by simp))
                    go_roundw
                    case rel => exact ⟨m + 1, bk + 1, by omega, by omega, by go_num, hid (by have := HBK.out; omega), hid (by rw [HNEW.out, tokA_hit b q _ hk0]; exact hbl), hid (own_kept HO2.out htt HGO.out), hid (Touch.below HB2.out HN2.out htt (by simpa using HNG.out))⟩
                    case measure => simp [intOf]; omega
                  · have hnew := step_miss HT12.out HAK.out hh
                    have HNEW := hid hnew
                    by_cases hh2 : 2 < k
                    · have d5 : decide ((2 : Int) < (k : Int)) = true := by simp; omega
                      have d6 : decide (t1 < k) = false := by simp; omega
                      clear hh hnew hh2
                      go_wp2
                      go_roundw
                      case rel => exact ⟨m + 1, bk + 1, by omega, by omega, by go_num, hid (by have := HBK.out; omega), hid (by rw [HNEW.out]; exact HG2.out), hid (own_kept HO2.out (Touch.of_below ((Calm.of_drewN wr2 (n0 + nq)).below _) []) (by simp)), hid (below_tr HB2.out HN2.out ((Calm.of_drewN wr2 (n0 + nq)).below _))⟩
                      case measure => simp [intOf]; omega
                    · have d5 : decide ((2 : Int) < (k : Int)) = false := by simp; omega
                      clear hh hnew hh2
                      go_wp2
                      go_roundw
                      case rel => exact ⟨m + 1, bk + 1, by omega, by omega, by go_num, hid (by have := HBK.out; omega), hid (by rw [HNEW.out]; exact HG2.out), hid (own_kept HO2.out (Touch.of_below ((Calm.of_drewN wr2 (n0 + nq)).below _) []) (by simp)), hid (below_tr HB2.out HN2.out ((Calm.of_drewN wr2 (n0 + nq)).below _))⟩
                      case measure => simp [intOf]; omega
              · have hrk := HGo.out
                rw [alikeGo_no (fun _ hc => absurd hc c2)] at hrk
                have HAK : Hid (Plain.alike b (q - (m + 1)) q = k) := hid (by rw [hpq, HR.out, hrk])
                have d4 : decide ((q : Int) + (k : Int) < (b.length : Int)) = false := by simp; omega
                have s1 : IntKind.i64.wrap ((q : Int) + (k : Int)) = (q : Int) + (k : Int) := IntWalk.i64_in _ (by omega)
                clear c1 c2 hp hpq hrk
                go_quiet (fail)
                clear s1
                by_cases hh : 2 < k ∧ t1 < k
                · have d5 : decide ((2 : Int) < (k : Int)) = true := by simp; omega
                  have d6 : decide (t1 < k) = true := by simp; omega
                  have hnew := step_hit HBK.out HT12.out HAK.out hh
                  have HNEW := hid hnew
                  have hk0 : k ≠ 0 := by omega
                  clear hh hnew
                  go_wp2
                  have hbl := set3_block (W := wr2.drewN (n0 + nq)) HG.out (u := .int .u8 0) (v := .int .i64 k) (t := .int .i64 (bk : Int))
                  have htt : Touch [G] wr2 ((((wr2.drewN (n0 + nq)).setCell ⟨G, 0, none⟩ (.int .u8 0)).setCell ⟨G, 1, none⟩ (.int .i64 k)).setCell ⟨G, 2, none⟩ (.int .i64 (bk : Int))) :=
                    ((((Touch.of_below ((Calm.of_drewN wr2 (n0 + nq)).below _) [G]).trans (Touch.setCell _ _ _) (by simp)).trans (Touch.setCell _ _ _) (by simp)).trans (Touch.setCell _ _ _) (by simp))
                  go_roundw
                  case rel => exact ⟨m + 1, bk + 1, by omega, by omega, by go_num, hid (by have := HBK.out; omega), hid (by rw [HNEW.out, tokA_hit b q _ hk0]; exact hbl), hid (own_kept HO2.out htt HGO.out), hid (Touch.below HB2.out HN2.out htt (by simpa using HNG.out))⟩
                  case measure => simp [intOf]; omega
                · have hnew := step_miss HT12.out HAK.out hh
                  have HNEW := hid hnew
                  by_cases hh2 : 2 < k
                  · have d5 : decide ((2 : Int) < (k : Int)) = true := by simp; omega
                    have d6 : decide (t1 < k) = false := by simp; omega
                    clear hh hnew hh2
                    go_wp2
                    go_roundw
                    case rel => exact ⟨m + 1, bk + 1, by omega, by omega, by go_num, hid (by have := HBK.out; omega), hid (by rw [HNEW.out]; exact HG2.out), hid (own_kept HO2.out (Touch.of_below ((Calm.of_drewN wr2 (n0 + nq)).below _) []) (by simp)), hid (below_tr HB2.out HN2.out ((Calm.of_drewN wr2 (n0 + nq)).below _))⟩
                    case measure => simp [intOf]; omega
                  · have d5 : decide ((2 : Int) < (k : Int)) = false := by simp; omega
                    clear hh hnew hh2
                    go_wp2
                    go_roundw
                    case rel => exact ⟨m + 1, bk + 1, by omega, by omega, by go_num, hid (by have := HBK.out; omega), hid (by rw [HNEW.out]; exact HG2.out), hid (own_kept HO2.out (Touch.of_below ((Calm.of_drewN wr2 (n0 + nq)).below _) []) (by simp)), hid (below_tr HB2.out HN2.out ((Calm.of_drewN wr2 (n0 + nq)).below _))⟩
                    case measure => simp [intOf]; omega
            · have hrk := HGo.out
              rw [alikeGo_no (fun hc => absurd hc c1)] at hrk
              have HAK : Hid (Plain.alike b (q - (m + 1)) q = k) := hid (by rw [hpq, HR.out, hrk])
              have d3 : decide ((k : Int) < 258) = false := by simp; omega
              clear c1 hp hpq hrk
              go_quiet (fail)
              by_cases hh : 2 < k ∧ t1 < k
              · have d5 : decide ((2 : Int) < (k : Int)) = true := by simp; omega
                have d6 : decide (t1 < k) = true := by simp; omega
                have hnew := step_hit HBK.out HT12.out HAK.out hh
                have HNEW := hid hnew
                have hk0 : k ≠ 0 := by omega
                clear hh hnew
                go_wp2
                have hbl := set3_block (W := wr2.drewN (n0 + nq)) HG.out (u := .int .u8 0) (v := .int .i64 k) (t := .int .i64 (bk : Int))
                have htt : Touch [G] wr2 ((((wr2.drewN (n0 + nq)).setCell ⟨G, 0, none⟩ (.int .u8 0)).setCell ⟨G, 1, none⟩ (.int .i64 k)).setCell ⟨G, 2, none⟩ (.int .i64 (bk : Int))) :=
                  ((((Touch.of_below ((Calm.of_drewN wr2 (n0 + nq)).below _) [G]).trans (Touch.setCell _ _ _) (by simp)).trans (Touch.setCell _ _ _) (by simp)).trans (Touch.setCell _ _ _) (by simp))
                go_roundw
                case rel => exact ⟨m + 1, bk + 1, by omega, by omega, by go_num, hid (by have := HBK.out; omega), hid (by rw [HNEW.out, tokA_hit b q _ hk0]; exact hbl), hid (own_kept HO2.out htt HGO.out), hid (Touch.below HB2.out HN2.out htt (by simpa using HNG.out))⟩
                case measure => simp [intOf]; omega
              · have hnew := step_miss HT12.out HAK.out hh
                have HNEW := hid hnew
                by_cases hh2 : 2 < k
                · have d5 : decide ((2 : Int) < (k : Int)) = true := by simp; omega
                  have d6 : decide (t1 < k) = false := by simp; omega
                  clear hh hnew hh2
                  go_wp2
                  go_roundw
                  case rel => exact ⟨m + 1, bk + 1, by omega, by omega, by go_num, hid (by have := HBK.out; omega), hid (by rw [HNEW.out]; exact HG2.out), hid (own_kept HO2.out (Touch.of_below ((Calm.of_drewN wr2 (n0 + nq)).below _) []) (by simp)), hid (below_tr HB2.out HN2.out ((Calm.of_drewN wr2 (n0 + nq)).below _))⟩
                  case measure => simp [intOf]; omega
                · have d5 : decide ((2 : Int) < (k : Int)) = false := by simp; omega
                  clear hh hnew hh2
                  go_wp2
                  go_roundw
                  case rel => exact ⟨m + 1, bk + 1, by omega, by omega, by go_num, hid (by have := HBK.out; omega), hid (by rw [HNEW.out]; exact HG2.out), hid (own_kept HO2.out (Touch.of_below ((Calm.of_drewN wr2 (n0 + nq)).below _) []) (by simp)), hid (below_tr HB2.out HN2.out ((Calm.of_drewN wr2 (n0 + nq)).below _))⟩
                  case measure => simp [intOf]; omega
        · have hm : m = min win q := by omega
          obtain ⟨fuel, rfl⟩ : ∃ f, fuel = f + 1 := ⟨fuel - 1, by omega⟩
          have HT1 := toks_next hlt HT.out
          have hta : Plain.tokAt b win q = ⟨if t1 = 0 then b.getD q 0 else 0, t1, t2⟩ := by
            unfold Plain.tokAt
            rw [← hm, HT12.out]
          have htk0 : ofTk (Plain.tokAt b win q) = tokOf b q (t1, t2) := by rw [hta]; rfl
          rw [htk0, show (Plain.tokAt b win q).len = t1 by rw [hta]] at HT1
          have hle := Plain.bestTo_le b q m (by omega)
          rw [HT12.out] at hle
          have hle1 : t1 ≤ 258 := hle.1
          have HNQ : Hid (q + max t1 1 ≤ b.length) := hid (by have : q + t1 ≤ b.length := hle.2; omega)
          have HTL : Hid (ts.length ≤ 5000000) := hid (by have := toks_len hlt HT.out; omega)
          rw [← HLV.out] at e0
          have hlen : (tokOf b q (t1, t2)).len = (t1 : Int) := rfl
          have hbk : (tokOf b q (t1, t2)).back = (t2 : Int) := rfl
          rw [← hlen] at e1
          rw [← hbk] at e2
          obtain ⟨tk, htk⟩ : ∃ tk, tokOf b q (t1, t2) = tk := ⟨_, rfl⟩
          rw [htk] at e0 e1 e2 hlen hbk HT1
          have hln1 : 0 ≤ tk.len := by omega
          have hln2 : tk.len ≤ 258 := by omega
          have HLEN := hid hlen
          have HT2 := hid HT1
          clear HT1 hta htk0 hle hlen hbk htk hm
          by_cases hw : m < win
          · have d1 : decide (bk ≤ win) = true := by simp; omega
            have d2 : decide (bk ≤ q) = false := by simp; omega
            clear hc hw
            go_wp2_with (at_builtin; refine wpList_append_tok rfl (.tmp 69) (.tmp 71) 26 30 rfl Try.underlying26 info30 N _ ts rfl (HO2.out.alloc _) wr2.heap.size tk rfl ?a1 ?b1 ?c1 ?d1 ?e1 ?_)
            case a1 => exact (cell_newG _ _ _ 0 rfl).trans rfl
            case b1 => exact (cell_newG _ _ _ 1 rfl).trans rfl
            case c1 => exact (cell_newG _ _ _ 2 rfl).trans rfl
            case d1 => exact HTL.out
            case e1 => have := HN2.out; simp; omega
            intro v3 w3 o3 g3
            have HO3 := hid o3
            have tg := Touch.grown g3
            have hGo : G ∉ u5.ownBlock.toList := fun hg => HGO.out G (by simpa using hg) (by simp)
            have M1 : w3.cell? ⟨G, 1, none⟩ = some (.int .i64 tk.len) := (World.cell?_of_block (tg.block _ (by have := World.block_lt_of_cell? wr2 _ e1; simp; exact Nat.lt_succ_of_lt this) hGo)).trans (cell_past _ e1)
            have HB3 : Hid (Below N w w3) := hid (Touch.below (HB2.out.alloc HN2.out (.cells #[.int .u8 tk.lit.toNat, .int .i64 tk.len, .int .i64 tk.back] 30)) (by have := HN2.out; simp; omega) tg (fun g hg => (own_block_lt HO2.out (by simpa using hg)).1))
            clear o3 g3 tg hGo e0 e1 e2 r0 r1 r2
            by_cases hz : tk.len < 1
            · have d4 : decide (tk.len < 1) = true := by simpa using hz
              go_wp2
              go_roundw
              case rel => exact ⟨q + max t1 1, fuel, ts ++ [tk], congrArg (Value.int .i64) (by have := HLEN.out; omega), by have := HNQ.out; omega, by have := HNQ.out; omega, HT2, hid (by rw [List.length_append]; exact HO3.out), HB3⟩
              case measure => simp [intOf]; omega
            · have d4 : decide (tk.len < 1) = false := by simpa using hz
              go_wp2
              go_roundw
              case rel => exact ⟨q + max t1 1, fuel, ts ++ [tk], congrArg (Value.int .i64) (by have := HLEN.out; omega), by have := HNQ.out; omega, by have := HNQ.out; omega, HT2, hid (by rw [List.length_append]; exact HO3.out), HB3⟩
              case measure => have := HLEN.out; simp [intOf]; omega
          · have d1 : decide (bk ≤ win) = false := by simp; omega
            clear hc hw
            go_wp2_with (at_builtin; refine wpList_append_tok rfl (.tmp 69) (.tmp 71) 26 30 rfl Try.underlying26 info30 N _ ts rfl (HO2.out.alloc _) wr2.heap.size tk rfl ?a2 ?b2 ?c2 ?d2 ?e2 ?_)
            case a2 => exact (cell_newG _ _ _ 0 rfl).trans rfl
            case b2 => exact (cell_newG _ _ _ 1 rfl).trans rfl
            case c2 => exact (cell_newG _ _ _ 2 rfl).trans rfl
            case d2 => exact HTL.out
            case e2 => have := HN2.out; simp; omega
            intro v3 w3 o3 g3
            have HO3 := hid o3
            have tg := Touch.grown g3
            have hGo : G ∉ u5.ownBlock.toList := fun hg => HGO.out G (by simpa using hg) (by simp)
            have M1 : w3.cell? ⟨G, 1, none⟩ = some (.int .i64 tk.len) := (World.cell?_of_block (tg.block _ (by have := World.block_lt_of_cell? wr2 _ e1; simp; exact Nat.lt_succ_of_lt this) hGo)).trans (cell_past _ e1)
            have HB3 : Hid (Below N w w3) := hid (Touch.below (HB2.out.alloc HN2.out (.cells #[.int .u8 tk.lit.toNat, .int .i64 tk.len, .int .i64 tk.back] 30)) (by have := HN2.out; simp; omega) tg (fun g hg => (own_block_lt HO2.out (by simpa using hg)).1))
            clear o3 g3 tg hGo e0 e1 e2 r0 r1 r2
            by_cases hz : tk.len < 1
            · have d4 : decide (tk.len < 1) = true := by simpa using hz
              go_wp2
              go_roundw
              case rel => exact ⟨q + max t1 1, fuel, ts ++ [tk], congrArg (Value.int .i64) (by have := HLEN.out; omega), by have := HNQ.out; omega, by have := HNQ.out; omega, HT2, hid (by rw [List.length_append]; exact HO3.out), HB3⟩
              case measure => simp [intOf]; omega
            · have d4 : decide (tk.len < 1) = false := by simpa using hz
              go_wp2
              go_roundw
              case rel => exact ⟨q + max t1 1, fuel, ts ++ [tk], congrArg (Value.int .i64) (by have := HLEN.out; omega), by have := HNQ.out; omega, by have := HNQ.out; omega, HT2, hid (by rw [List.length_append]; exact HO3.out), HB3⟩
              case measure => have := HLEN.out; simp [intOf]; omega
    · have hqe : q = b.length := by omega
      have hall : ts = allToks b win := by
        have h := HT.out
        have e : Plain.toksF b win fuel q = [] := by
          cases fuel with
          | zero => rfl
          | succ f => show (if q < b.length then _ else _) = _; rw [if_neg hlt]
        rw [e] at h
        simpa using h
      subst hall
      have dl : decide (q < b.length) = false := by simpa using hlt
      go_wp2
      go_ret
      exact ⟨_, rfl, HO.out, HBL.out⟩
end Go.Proofs.Ytaoodggdopdkeaa
