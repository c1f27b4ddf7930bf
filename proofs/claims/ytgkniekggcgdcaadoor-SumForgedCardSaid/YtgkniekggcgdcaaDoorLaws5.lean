/- The walks of sum.Forge and SumForged: returns true, and nothing that was there is written. -/
import Derived.Test.YtgkniekggcgdcaaDoorLaws4
import Derived.Deep.AppendLies
import Derived.Deep.RegionLaw
namespace Go.Proofs.YtgkniekggcgdcaaDoor
open Go.RowKit Crc
attribute [local go_sem] u32_signed

theorem Bik_succ' (k : Nat) : ∀ x : W, Bik (k + 1) x = Bi (Bik k x) := by
  induction k with
  | zero => intro x; rfl
  | succ k ih => intro x; show Bik (k + 1) (Bi x) = _; rw [ih]; rfl
theorem top_bit (x : W) : x.getLsbD 31 = decide (U x / 2147483648 = 1) := by
  have h := x.isLt
  show x.toNat.testBit 31 = _
  rw [Nat.testBit_eq_decide_div_mod_eq]
  unfold U
  rw [show (2 : Nat) ^ 31 = 2147483648 from rfl]
  rw [decide_eq_decide]
  omega
theorem U_shl1 (x : W) : U (x <<< (1 : Nat)) = U x * 2 % 4294967296 := by
  unfold U
  rw [BitVec.toNat_shiftLeft, Nat.shiftLeft_eq]
  omega
theorem bi_hi (x : W) (h : U x / 2147483648 = 1) : bits .or .u32 (bits .xor .u32 (U x) 2197175160 * 2 % 4294967296) 1 = U (Bi x) := by
  have hp : (2197175160 : Int) = U poly := by decide
  have hx : x.getLsbD 31 = true := by rw [top_bit]; simpa using h
  unfold Bi
  rw [hx, hp, U_xor, ← U_shl1]
  show bits .or .u32 (((x ^^^ poly) <<< 1).toNat : Int) ((1 : Nat) : Int) = _
  rw [u32_or_nat _ _ (BitVec.isLt _) (by decide)]
  unfold U
  rw [if_pos rfl, BitVec.toNat_or]
  rfl
theorem bi_lo (x : W) (h : ¬ U x / 2147483648 = 1) : U x * 2 % 4294967296 = U (Bi x) := by
  have hx : x.getLsbD 31 = false := by rw [top_bit]; simpa using h
  unfold Bi
  rw [hx, ← U_shl1]
  rfl

set_option maxHeartbeats 1000000 in
set_option maxRecDepth 100000 in
theorem forge_any (n : W) (w : World) :
    Calls Tryd.prog 13 #[.int .u32 (U n)] w fun e w' => e = .returned (.agg #[.int .u8 (U (Bik 32 ones ^^^ ~~~ n) % 256), .int .u8 (U (Bik 32 ones ^^^ ~~~ n) / 256 % 256),
      .int .u8 (U (Bik 32 ones ^^^ ~~~ n) / 65536 % 256), .int .u8 (U (Bik 32 ones ^^^ ~~~ n) / 16777216 % 256)]) ∧ Below w.heap.size w w' := by
  have h1 := U_not n
  have h2 := U_xor (Bik 32 ones) (~~~ n)
  have p0 := U_lo (Bik 32 ones ^^^ ~~~ n)
  generalize U (Bik 32 ones ^^^ ~~~ n) = z at *
  generalize U (~~~ n) = nn at *
  generalize U n = n0 at *
  have H2 := hid h2
  clear h2
  have h0 : (4294967295 : Int) = U (Bik 0 ones) := by decide
  have H0 := hid h0
  clear h0
  go_enter Tryd.func13, Tryd.ntmps13
  go_wp2
  go_loop [3, 4] (fun v i => ∃ k : Nat, k ≤ 32 ∧ i = .int .i64 k ∧ ∃ x0 : Int, v = .int .u32 x0 ∧ Hid (x0 = U (Bik k ones))) (fun _ i => 32 - (intOf i).toNat)
  case atStart => exact ⟨0, Nat.zero_le _, rfl, _, rfl, H0⟩
  case round =>
    clear H0
    obtain ⟨k, hk, rfl, y0, rfl, hy⟩ := hrel
    have y1 : 0 ≤ y0 := by rw [hy.out]; exact U_lo _
    have y2 : y0 < 4294967296 := by rw [hy.out]; exact U_hi _
    by_cases hlt : k < 32
    · by_cases hb : y0 / 2147483648 = 1
      · have hs : Hid (bits .or .u32 (bits .xor .u32 y0 2197175160 * 2 % 4294967296) 1 = U (Bik (k + 1) ones)) := by
          rw [hy.out] at hb
          rw [Bik_succ', hy.out]; exact bi_hi _ hb
        clear h1
        go_wp2
        go_round
        case rel => exact ⟨k + 1, by omega, by go_num, _, rfl, hs⟩
        case measure => simp [intOf]; omega
      · have hs : Hid (y0 * 2 = U (Bik (k + 1) ones)) := by
          have e : y0 * 2 = y0 * 2 % 4294967296 := by omega
          rw [hy.out] at hb
          rw [e, Bik_succ', hy.out]; exact bi_lo _ hb
        clear h1
        go_wp2
        go_round
        case rel => exact ⟨k + 1, by omega, by go_num, _, rfl, hs⟩
        case measure => simp [intOf]; omega
    · obtain rfl : k = 32 := by omega
      have h3 := H2.out
      rw [← hy.out] at h3
      clear hy
      go_wp2
      exact bodyPost_ret (v := .agg #[.int .u8 (z % 256), .int .u8 (z / 256 % 256), .int .u8 (z / 65536 % 256), .int .u8 (z / 16777216 % 256)]) (by simp [results, Tryd.results13, go_sem]) rfl ⟨rfl, by go_grown⟩

/-- append of bytes, at a step of a region that draws its order -/
theorem step_append_bytes {w : World} {ops : Array Oper} {o : Oper} {a : Act} {K : Act → World → Prop} {Q : Exit → Act → World → Prop} {E : Prop} (hgd : o.guard = none) (s x : Operand)
    (ho : o.op = .call { callee := .builtin .append, args := #[s, x], argTypes := #[22, 22] }) (base : Nat)
    (v : Value) (xs : List UInt8) (hs : a.eval s = v) (hown : Row w base v xs)
    (A : Option Addr) (l : List UInt8) (c : Nat) (hx : a.eval x = .slice A l.length c) (hB : Bytes w A l) (hnil : A = none → c = 0) (hb : xs.length + l.length ≤ 140737488355328) (hbase : base ≤ w.heap.size)
    (h : ∀ v' w', Row w' base v' (xs ++ l) → w.grownBy w' v.ownBlock → K (a.put o.dst v') w') :
    if Region.wanted o (yielded ops a.tmps) = true then Oper.wp Tryd.prog o a w K Q else E := by
  have hw : Region.wanted o (yielded ops a.tmps) = true := by simp [Region.wanted, hgd]
  rw [if_pos hw]
  obtain ⟨i0, hi, hz0, hz1, hz2⟩ := info_parts info5
  cases A with
  | none =>
    have hl : l = [] := by
      cases l with
      | nil => rfl
      | cons y l => obtain ⟨ad, e, _⟩ := hB.2 0 (by simp); cases e
    subst hl
    obtain rfl := hnil rfl
    have hrun := run_append_owned_none (P := Tryd.prog) (w := w) base 22 o.type 5 i0 1 Tryd.underlying22 hi v _ _ hown
    unfold Oper.wp
    simp only [List.length_nil] at hx
    simp [execOp, ho, resolve, invoke, builtin, hs, hx, hrun, Result.andThen]
    exact h v w (by simpa using hown) ⟨rfl, rfl, rfl, Nat.le_refl _, fun _ _ _ => rfl⟩
  | some ad =>
    refine wp_append_own _ s x 22 ho base 5 i0 (.int .u8 0) 1 1 Tryd.underlying22 hi hz0 hz1 hz2 rfl (by decide) v xs.length (bv xs) hs hown ad l.length c (bv l) hx (by simp [bv]) ?_ (bv_one l) (by unfold maxLen; omega) (by omega) hbase ?_
    · intro j u hj
      simp only [bv, List.getElem?_map, Option.map_eq_some_iff] at hj
      obtain ⟨y, hy, rfl⟩ := hj
      obtain ⟨hjl, rfl⟩ := List.getElem?_eq_some_iff.1 hy
      obtain ⟨ad', e, hc⟩ := hB.2 j hjl
      cases e
      exact hc
    · intro v' w' h1 h2 _
      exact h v' w' (by unfold Row; simpa [bv] using h1) h2

set_option maxHeartbeats 1000000 in
set_option maxRecDepth 100000 in
theorem sumForged_no (A : Option Addr) (l : List UInt8) (c : Nat) (w : World) (h : 3000 < l.length) (ht : Tab w) :
    Calls Tryd.prog 8 #[.slice A l.length c] w fun e w' => e = .returned (.bool true) ∧ Below w.heap.size w w' := by
  have HT := hid ht
  have t1 := gt3000 h
  clear ht
  go_enter Tryd.func8, Tryd.ntmps8
  go_wp2_with fail
  refine (awake_any _ HT.out).mono ?_
  rintro e w' ⟨rfl, hb⟩
  go_wp2
  go_ret
  exact ⟨rfl, hb⟩

set_option maxHeartbeats 1000000 in
set_option maxRecDepth 100000 in
theorem sumForged_yes (A : Option Addr) (l : List UInt8) (c : Nat) (w : World) (hA : Bytes w A l) (nA : A = none → c = 0) (ll : l.length ≤ 3000) (ht : Tab w) :
    Calls Tryd.prog 8 #[.slice A l.length c] w fun e w' => e = .returned (.bool true) ∧ Below w.heap.size w w' := by
  have HT := hid ht
  have HA := hid hA
  have NA := hid nA
  have t1 := le3000 ll
  have hF := of_forged l
  have hF0 : U 0#32 = 0 := by decide
  obtain ⟨h0, h1, h2, h3⟩ := le4_nums (Bik 32 ones ^^^ ~~~ (Crc.of l))
  simp only [IntKind.wrap_u8] at h0 h1 h2 h3
  have hle : forge (Crc.of l) = [_, _, _, _] := rfl
  rw [hle] at hF
  generalize hzz : U (Bik 32 ones ^^^ ~~~ (Crc.of l)) = zz at h0 h1 h2 h3
  have HZ := hid hzz
  generalize (⟨(Bik 32 ones ^^^ ~~~ (Crc.of l)).setWidth 8⟩ : UInt8) = a0 at *
  generalize (⟨((Bik 32 ones ^^^ ~~~ (Crc.of l)) >>> 8).setWidth 8⟩ : UInt8) = a1 at *
  generalize (⟨((Bik 32 ones ^^^ ~~~ (Crc.of l)) >>> 16).setWidth 8⟩ : UInt8) = a2 at *
  generalize (⟨((Bik 32 ones ^^^ ~~~ (Crc.of l)) >>> 24).setWidth 8⟩ : UInt8) = a3 at *
  have HF : Hid (U (Crc.of (l ++ [a0, a1, a2, a3])) = 0) := by rw [← hF0, ← hF]; exact rfl
  have H0 := hid h0
  have H1 := hid h1
  have H2 := hid h2
  have H3 := hid h3
  clear ht hA nA h0 h1 h2 h3 hzz hle hF hF0
  go_enter Tryd.func8, Tryd.ntmps8
  go_wp2_with fail
  refine (ref_any A l c _ HA.out).mono ?_
  rintro e w' ⟨rfl, rfl⟩
  go_wp2_with fail
  refine (forge_any _ _).mono ?_
  rintro e w1 ⟨rfl, b1⟩
  rw [HZ.out, H0.out, H1.out, H2.out, H3.out]
  have s1 := b1.size
  go_wp2_with fail
  obtain ⟨X, hX⟩ : ∃ X, w1.alloc (.cells #[.int .u8 a0.toNat, .int .u8 a1.toNat, .int .u8 a2.toNat, .int .u8 a3.toNat] 33) = X := ⟨_, rfl⟩
  have bX : Below w.heap.size w X := by rw [← hX]; exact below_tr b1 s1 (below_new _ _)
  have AX := hid (HA.out.below bX)
  have TX := hid (HT.out.below bX)
  have FX : Hid (Bytes X (some ⟨w1.heap.size, 0, none⟩) [a0, a1, a2, a3]) := by rw [← hX]; exact Bytes.new rfl rfl (by simp)
  have SX := hid bX.size
  have BX := hid bX
  rw [hX]
  clear b1 s1 hX bX
  go_region_law (first
    | (refine step_append_bytes rfl (.tmp 11) (.tmp 12) rfl X.heap.size (.slice (some ⟨X.heap.size, 0, none⟩) 0 0) [] (by simp [Act.eval, Act.put]) ?_ A l c (by simp [Act.eval, Act.put]) ?_ NA.out ?_ ?_ ?_
       · exact own_empty X X.heap.size (Nat.le_refl _)
       · exact AX.out.below (by go_grown)
       · simp; omega
       · simp
       intro v2 w2 o2 g2
       have b2 : Below X.heap.size X w2 := row_grown (below_new X (.cells #[] 5)).drew (by simp) (own_empty X X.heap.size (Nat.le_refl _)) g2
       have O2 := hid o2
       have B2 := hid b2
       clear o2 g2 b2)
    | (refine step_append_bytes rfl (.tmp 13) (.tmp 14) rfl X.heap.size v2 l (by simp [Act.eval]) O2.out (some ⟨w1.heap.size, 0, none⟩) [a0, a1, a2, a3] 4 (by simp [Act.eval]) ?_ (fun h => by cases h) ?_ ?_ ?_
       · exact FX.out.below B2.out
       · simp; omega
       · exact B2.out.size
       intro v3 w3 o3 g3
       have b3 : Below X.heap.size X w3 := row_grown B2.out B2.out.size O2.out g3
       obtain ⟨L, hL⟩ : ∃ L, l ++ [a0, a1, a2, a3] = L := ⟨_, rfl⟩
       have lL : L.length ≤ 3004 := by rw [← hL]; simp; omega
       have HL : Hid (U (Crc.of L) = 0) := by rw [← hL]; exact HF.out
       rw [hL] at o3
       obtain ⟨A3, c3, hv3, y3⟩ := row_bytes o3 (by omega)
       rw [hv3]
       have Y3 := hid y3
       have B3 := hid b3
       clear o3 g3 b3 y3 hv3 hL)
    | (go_simp
       go_at_call 11
       refine (ref_any A3 L c3 _ ?_).mono ?_
       · exact Y3.out
       rintro e w' ⟨rfl, rfl⟩
       rw [HL.out])
    | (go_simp
       go_at_call 9
       refine (awake_any _ ?_).mono ?_
       · exact TX.out.below B3.out
       rintro e w' ⟨rfl, hb⟩
       have hb' : Hid (Below w.heap.size w w') := hid (below_tr (below_tr BX.out SX.out B3.out) (by have := SX.out; have := B3.out.size; omega) hb)
       clear hb))
  all_goals go_wp2
  all_goals go_ret
  all_goals exact ⟨rfl, Hid.out (by assumption)⟩
end Go.Proofs.YtgkniekggcgdcaaDoor
