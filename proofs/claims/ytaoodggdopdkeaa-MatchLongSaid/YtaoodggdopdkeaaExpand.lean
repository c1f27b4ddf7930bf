/- Expand is the plain law's row of bytes, or its error. -/
import Derived.Test.YtaoodggdopdkeaaSizes
import Derived.Deep.RegionHeld
namespace Go.Proofs.Ytaoodggdopdkeaa
open Go.RowKit

/-- n bytes more, each as the one `back` ahead -/
def copyN (out : List UInt8) (back : Nat) : Nat → List UInt8
  | 0 => out
  | n + 1 => copyN out back n ++ [(copyN out back n).getD ((copyN out back n).length - back) 0]
theorem copyN_length (out : List UInt8) (back : Nat) : ∀ n, (copyN out back n).length = out.length + n
  | 0 => rfl
  | n + 1 => by simp only [copyN, List.length_append, copyN_length out back n, List.length_cons, List.length_nil]; omega
def codeOf (out : List UInt8) (t : Tok) : Nat :=
  if rightB t = false ∨ (out.length : Int) < t.back then 4 else if 65536 < (out.length : Int) + (if t.len < 1 then 1 else t.len) then 7 else 0
def grow (out : List UInt8) (t : Tok) : List UInt8 := if t.len = 0 then out ++ [t.lit] else copyN out t.back.toNat t.len.toNat
/-- 0 and the bytes, or an error's number -/
def expand (out : List UInt8) : List Tok → Nat × List UInt8
  | [] => (0, out)
  | t :: l => if codeOf out t = 0 then expand (grow out t) l else (codeOf out t, [])
theorem expand_4 {out : List UInt8} {t : Tok} {l : List Tok} (h : rightB t = false ∨ (out.length : Int) < t.back) : expand out (t :: l) = (4, []) := by
  have e : codeOf out t = 4 := if_pos h
  show (if codeOf out t = 0 then _ else _) = _
  rw [e]; rfl
theorem expand_7 {out : List UInt8} {t : Tok} {l : List Tok} (h : ¬ (rightB t = false ∨ (out.length : Int) < t.back)) (h2 : 65536 < (out.length : Int) + (if t.len < 1 then 1 else t.len)) : expand out (t :: l) = (7, []) := by
  have e : codeOf out t = 7 := (if_neg h).trans (if_pos h2)
  show (if codeOf out t = 0 then _ else _) = _
  rw [e]; rfl
theorem expand_0 {out : List UInt8} {t : Tok} {l : List Tok} (h : ¬ (rightB t = false ∨ (out.length : Int) < t.back)) (h2 : ¬ 65536 < (out.length : Int) + (if t.len < 1 then 1 else t.len)) : expand out (t :: l) = expand (grow out t) l := by
  have e : codeOf out t = 0 := (if_neg h).trans (if_neg h2)
  show (if codeOf out t = 0 then _ else _) = _
  rw [e]; rfl
theorem rightB_yes {t : Tok} (h : rightB t = true) : (t.len = 0 ∧ t.back = 0) ∨ (3 ≤ t.len ∧ t.len ≤ 258 ∧ 1 ≤ t.back ∧ t.back ≤ 32768 ∧ t.lit = 0) := by
  unfold rightB at h
  split at h
  · left; simp at h; exact ⟨by assumption, h⟩
  · right; simpa using h
/-- the two results read -/
def Told (w w' : World) (r : Nat × List UInt8) (e : Ending) : Prop :=
  ∃ A c, e = .returned (.tuple #[.slice A r.2.length c, .int .i64 r.1]) ∧ Reads w' A (bytesV r.2) ∧ (A = none → c = 0) ∧ Below w.heap.size w w'
theorem info5 : (Try.prog.info? 5).map (fun i => (i.zero, i.size, i.bytes)) = some (some (.int .u8 0), 1, 1) := by kernel_rfl
theorem reads_one {w : World} {g : Nat} {u : Value} (h : w.cell? ⟨g, 0, none⟩ = some u) : Reads w (some ⟨g, 0, none⟩) [u] :=
  ⟨by simp, fun i hi => by
    have : i = 0 := by simp at hi; omega
    subst this
    exact ⟨_, rfl, h⟩⟩
theorem own_reads_at {w : World} {base n : Nat} {e : TypeId} {v : Value} {xs : List Value} (h : w.ownsRow base e 1 v n xs) (hn : n ≤ 9223372036854775807) :
    ∃ A c, v = .slice A n c ∧ Reads w A xs ∧ (A = none → c = 0) ∧ (∀ bd, A = some bd → base ≤ bd.block) ∧ n ≤ c := by
  have hl : xs.length = n := by have := h.1; simp at this; exact this
  rcases h.2 with ⟨rfl, rfl⟩ | ⟨g, cap, cur, rfl, hb, hg, hcap, _, _, ht⟩
  · obtain rfl := List.eq_nil_of_length_eq_zero hl
    exact ⟨none, 0, rfl, ⟨by simp, fun i hi => by simp at hi⟩, fun _ => rfl, fun _ h => (by cases h), Nat.le_refl _⟩
  · refine ⟨some ⟨g, 0, none⟩, cap, rfl, ⟨by omega, fun i hi => ⟨_, rfl, ?_⟩⟩, fun h => (by cases h), fun bd h => (by cases h; exact hb), by omega⟩
    exact h.cells (g := g) rfl i _ (by simp [hi])
theorem bytesV_snoc (l : List UInt8) (x : UInt8) : bytesV l ++ [.int .u8 x.toNat] = bytesV (l ++ [x]) := by simp [bytesV]
set_option maxHeartbeats 400000 in
set_option maxRecDepth 100000 in
theorem clip_any (A : Option Addr) (n c : Nat) (w : World) (hn : n ≤ c) (hA : A = none → c = 0) : Calls Try.prog 20 #[.slice A n c] w fun e w' => e = .returned (.slice A n n) ∧ w' = w := by
  cases A with
  | none =>
    obtain rfl := hA rfl
    obtain rfl : n = 0 := by omega
    go_enter Try.func20, Try.ntmps20
    go_wp2
    go_ret
    exact ⟨rfl, rfl⟩
  | some ad =>
    clear hA
    go_enter Try.func20, Try.ntmps20
    go_wp2
    go_ret
    exact ⟨rfl, rfl⟩
set_option maxHeartbeats 4000000 in
set_option maxRecDepth 100000 in
theorem expand_any (A : Option Addr) (c : Nat) (l : List Tok) (w : World) (hl : ReadsT w A l) :
    Calls Try.prog 13 #[.slice A l.length c] w fun e w' => Told w w' (expand [] l) e := by
  obtain ⟨R, hR⟩ : ∃ R, expand [] l = R := ⟨_, rfl⟩
  rw [hR]
  have HR := hid hR
  have HL := hid hl
  have hll := hl.1
  clear hl hR
  obtain ⟨N, hN⟩ : ∃ N, w.heap.size = N := ⟨_, rfl⟩
  have HN := hid hN
  clear hN
  go_enter Try.func13, Try.ntmps13
  go_wp2
  go_loopw [4, 9] (fun v i wr => ∃ (k : Nat) (out : List UInt8), k ≤ l.length ∧ i = .int .i64 k ∧ out.length ≤ 65536 ∧ Hid (expand out (l.drop k) = R) ∧ Hid (wr.ownsRow N 5 1 v out.length (bytesV out)) ∧ Hid (Below N w wr)) (fun _ i _ => l.length - (intOf i).toNat)
  case atStart => exact ⟨0, [], Nat.zero_le _, rfl, by simp, HR, hid (World.ownsRow_nil _ _ _ _), hid (by rw [← HN.out]; exact Below.refl _ _)⟩
  case round =>
    obtain ⟨k, out, hk, rfl, hout, HX, HO, HB⟩ := hrel
    by_cases hlt : k < l.length
    · have dl : decide (k < l.length) = true := by simpa using hlt
      obtain ⟨ad, rfl, c0, c1, c2, hwf⟩ := (HL.out.below (by rw [HN.out]; exact HB.out)).2 k hlt
      have hdr := List.drop_eq_getElem_cons hlt
      obtain ⟨t, ht⟩ : ∃ t, l[k] = t := ⟨_, rfl⟩
      rw [ht] at c0 c1 c2 hdr hwf
      rw [hdr] at HX
      clear hdr ht
      obtain ⟨Av, cv, rfl, hrd, hnil, hbk, hcap⟩ := own_reads_at HO.out (by omega)
      have HRD := hid hrd
      have HNIL := hid hnil
      have HOB : Hid (∀ g, (Value.slice Av out.length cv).ownBlock = some g → N ≤ g) := hid (fun g hg => (own_block_lt HO.out hg).1)
      have HGO : Hid (wr.heap.size ∉ (Value.slice Av out.length cv).ownBlock.toList) := hid (fun hg => by have := (own_block_lt HO.out (by simpa using hg)).2; omega)
      clear hrd hnil hbk
      obtain ⟨G, hG⟩ : ∃ G, wr.heap.size = G := ⟨_, rfl⟩
      have HG := hid hG
      rw [hG] at HGO
      go_wp2_with fail
      refine (right_any t _).mono ?_
      rintro e w1 ⟨rfl, b1⟩
      have n0 := cell_below b1 ((cell_new wr #[.int .u8 t.lit.toNat, .int .i64 t.len, .int .i64 t.back] 33 (0, 0) 0).trans rfl)
      have n1 := cell_below b1 ((cell_new wr #[.int .u8 t.lit.toNat, .int .i64 t.len, .int .i64 t.back] 33 (0, 0) 1).trans rfl)
      have n2 := cell_below b1 ((cell_new wr #[.int .u8 t.lit.toNat, .int .i64 t.len, .int .i64 t.back] 33 (0, 0) 2).trans rfl)
      rw [hG] at n0 n1 n2
      have bw := below_trans (below_new wr (.cells #[.int .u8 t.lit.toNat, .int .i64 t.len, .int .i64 t.back] 33)) b1
      have HO1 := hid (own_kept HO.out (Touch.of_below bw []) (by simp))
      have HB1 : Hid (Below N w w1) := hid (below_tr HB.out (by rw [← HN.out]; exact HB.out.size) bw)
      have HGlt : Hid (G < w1.heap.size) := hid (by have := World.block_lt_of_cell? _ _ n0; exact this)
      obtain ⟨tl, tn, tb⟩ := t
      simp only at n0 n1 n2
      have HX1 := HX.out
      clear b1 bw hG c0 c1 c2
      by_cases r : rightB ⟨tl, tn, tb⟩ = true
      · rw [r]
        have hr := rightB_yes r
        simp only at hr
        by_cases q1 : (out.length : Int) < tb
        · rw [expand_4 (.inr q1)] at HX1
          subst HX1
          have d1 : decide ((out.length : Int) < tb) = true := by simpa using q1
          clear r q1 hr
          go_wp2
          go_ret2
          exact ⟨none, 0, rfl, ⟨by simp [bytesV], fun i hi => absurd hi (by simp [bytesV])⟩, fun _ => rfl, by rw [HN.out]; exact HB1.out⟩
        · have d1 : decide ((out.length : Int) < tb) = false := by simpa using q1
          have q0 : ¬ (rightB ⟨tl, tn, tb⟩ = false ∨ (out.length : Int) < tb) := by rw [r]; simpa using q1
          by_cases z : tn = 0
          · subst z
            by_cases q2 : 65536 < (out.length : Int) + 1
            · rw [expand_7 q0 q2] at HX1
              subst HX1
              have d2 : decide (65536 < (out.length : Int) + 1) = true := by simpa using q2
              clear r q1 hr q2 q0
              go_wp2
              go_ret2
              exact ⟨none, 0, rfl, ⟨by simp [bytesV], fun i hi => absurd hi (by simp [bytesV])⟩, fun _ => rfl, by rw [HN.out]; exact HB1.out⟩
            · rw [expand_0 q0 q2] at HX1
              have d2 : decide (65536 < (out.length : Int) + 1) = false := by simpa using q2
              have hgr : grow out ⟨tl, 0, tb⟩ = out ++ [tl] := if_pos rfl
              rw [hgr] at HX1
              have HX2 := hid HX1
              have hq : out.length < 65536 := by omega
              clear r q1 hr q2 hgr HX1 q0
              go_wp2_with (at_builtin; refine wpList_append_reads rfl (.tmp 36) (.tmp 39) 22 5 (.int .u8 0) 1 rfl Try.underlying22 info5 rfl N _ out.length (bytesV out) rfl (HO1.out.alloc _) (some ⟨w1.heap.size, 0, none⟩) 1 [.int .u8 tl.toNat] 1 rfl rfl (reads_one (cell_one _ _ _).1) ?c1 ?c2 ?c3 ?c4 ?c5 ?_)
              case c1 => intro h; cases h
              case c2 => intro u hu; simp at hu; subst hu; rfl
              case c3 => unfold maxLen; omega
              case c4 => omega
              case c5 => have := HB1.out.size; rw [HN.out] at this; simp; omega
              intro v3 w3 o3 g3 f3
              have HO3 := hid (show w3.ownsRow N 5 1 v3 (out ++ [tl]).length (bytesV (out ++ [tl])) by rw [← bytesV_snoc, List.length_append]; exact o3)
              have hGo : G ∉ (Value.slice Av out.length cv).ownBlock.toList := HGO.out
              have tg := Touch.grown g3
              have m1 : w3.cell? ⟨G, 1, none⟩ = some (.int .i64 0) := (World.cell?_of_block (tg.block _ (by have := HGlt.out; simp; omega) hGo)).trans (cell_past _ n1)
              have HB3 : Hid (Below N w w3) := hid (Touch.below (HB1.out.alloc (by have := HB1.out.size; rw [HN.out] at this; omega) (.cells #[.int .u8 tl.toNat] 5)) (by have := HB1.out.size; rw [HN.out] at this; simp; omega) tg (fun q hq => HOB.out q (by simpa using hq)))
              clear o3 g3 f3 hGo tg
              go_wp2
              go_loopw [4, 43] (fun v j wr => v = v3 ∧ j = .int .i64 0 ∧ wr = w3) (fun _ _ _ => 0)
              case atStart => exact ⟨rfl, rfl, rfl⟩
              case round =>
                obtain ⟨rfl, rfl, rfl⟩ := hrel
                go_wp2
                go_roundw
                case rel => exact ⟨k + 1, out ++ [tl], by omega, by go_num, by simp; omega, HX2, HO3, HB3⟩
                case measure => simp [intOf]; omega
          · have hrr : 3 ≤ tn ∧ tn ≤ 258 ∧ 1 ≤ tb ∧ tb ≤ 32768 := by rcases hr with hr | hr <;> omega
            obtain ⟨g1, g2, g3, g4⟩ := hrr
            obtain ⟨n, rfl⟩ := Int.eq_ofNat_of_zero_le (show 0 ≤ tn by omega)
            obtain ⟨bk, rfl⟩ := Int.eq_ofNat_of_zero_le (show 0 ≤ tb by omega)
            have e1 : (if (n : Int) < 1 then (1 : Int) else n) = n := if_neg (by omega)
            have d3 : ((n : Int) == 0) = false := by simp; omega
            have d4 : decide ((n : Int) < 1) = false := by simp; omega
            have d5 : decide (out.length < bk) = false := by simp; omega
            by_cases q2 : 65536 < (out.length : Int) + n
            · rw [expand_7 q0 (by show 65536 < (out.length : Int) + (if (n : Int) < 1 then (1 : Int) else n); rw [e1]; exact q2)] at HX1
              subst HX1
              have d2 : decide (65536 < (out.length : Int) + n) = true := by simpa using q2
              clear r q1 hr q2 q0 e1 z
              go_wp2
              go_ret2
              exact ⟨none, 0, rfl, ⟨by simp [bytesV], fun i hi => absurd hi (by simp [bytesV])⟩, fun _ => rfl, by rw [HN.out]; exact HB1.out⟩
            · rw [expand_0 q0 (by show ¬ 65536 < (out.length : Int) + (if (n : Int) < 1 then (1 : Int) else n); rw [e1]; exact q2)] at HX1
              have d2 : decide (65536 < (out.length : Int) + n) = false := by simpa using q2
              have hgr : grow out ⟨tl, (n : Int), (bk : Int)⟩ = copyN out bk n := if_neg z
              rw [hgr] at HX1
              have HX2 := hid HX1
              have hq : out.length + n ≤ 65536 := by omega
              have hqb : bk ≤ out.length := by omega
              have HO5 : Hid (w1.ownsRow N 5 1 (Value.slice Av out.length cv) (copyN out bk 0).length (bytesV (copyN out bk 0))) := hid HO1.out
              have HGO5 : Hid (G ∉ (Value.slice Av out.length cv).ownBlock.toList) := HGO
              have N1 := hid n1
              have N2 := hid n2
              clear r q1 hr q2 hgr HX1 q0 e1 z
              go_wp2
              go_loopw [4, 43] (fun v j wr => ∃ m : Nat, m ≤ n ∧ j = .int .i64 m ∧ Hid (wr.ownsRow N 5 1 v (copyN out bk m).length (bytesV (copyN out bk m))) ∧ Hid (G ∉ v.ownBlock.toList) ∧ Hid (wr.cell? ⟨G, 1, none⟩ = some (.int .i64 n)) ∧ Hid (wr.cell? ⟨G, 2, none⟩ = some (.int .i64 bk)) ∧ Hid (Below N w wr)) (fun _ j _ => n - (intOf j).toNat)
              case atStart => exact ⟨0, Nat.zero_le _, rfl, HO5, HGO5, N1, N2, HB1⟩
              case round =>
                clear n1 n2
                obtain ⟨m, hm, rfl, HOm, HGm, N1m, N2m, HBm⟩ := hrel
                have n1 := N1m.out
                have n2 := N2m.out
                by_cases hmn : m < n
                · have dm : decide (m < n) = true := by simpa using hmn
                  obtain ⟨o, ho⟩ : ∃ o, copyN out bk m = o := ⟨_, rfl⟩
                  have hol := copyN_length out bk m
                  have hnx : copyN out bk (m + 1) = o ++ [o.getD (o.length - bk) 0] := by rw [← ho]; rfl
                  rw [ho] at HOm hol
                  obtain ⟨p, hp⟩ : ∃ p, o.length = p + bk := ⟨o.length - bk, by omega⟩
                  have hpl : p < o.length := by omega
                  have hgd : o.getD (o.length - bk) 0 = o[p] := by rw [show o.length - bk = p by omega]; simp [hpl]
                  rw [hgd] at hnx
                  obtain ⟨Av2, cv2, rfl, hrd2, hnil2, hbk2, hcap2⟩ := own_reads_at HOm.out (by omega)
                  obtain ⟨ad2, rfl, hcell⟩ := hrd2.2 p (by simpa [bytesV] using hpl)
                  have hcell2 : wr.cell? (ad2.add p) = some (.int .u8 (o[p]).toNat) := by simpa [bytesV] using hcell
                  obtain ⟨y, hy⟩ : ∃ y, o[p] = y := ⟨_, rfl⟩
                  rw [hy] at hcell2 hnx
                  have HNX := hid hnx
                  have HOBm : Hid (∀ g, (Value.slice (some ad2) o.length cv2).ownBlock = some g → N ≤ g) := hid (fun g hg => (own_block_lt HOm.out hg).1)
                  have HGlt2 : Hid (G < wr.heap.size) := hid (World.block_lt_of_cell? wr _ n1)
                  have HNm : Hid (N ≤ wr.heap.size) := hid (by have := HBm.out.size; rw [HN.out] at this; exact this)
                  have hpb : (o.length : Int) - (bk : Int) = (p : Int) := by omega
                  have hol2 : o.length ≤ 65536 := by omega
                  have HOL := hid hol
                  have HO5' := HO5
                  clear hrd2 hnil2 hbk2 hcell hgd hnx hy ho hp hol HO5' 
                  go_wp2_with (at_builtin; refine wpList_append_reads rfl (.tmp 45) (.tmp 54) 22 5 (.int .u8 0) 1 rfl Try.underlying22 info5 rfl N _ o.length (bytesV o) rfl (HOm.out.alloc _) (some ⟨wr.heap.size, 0, none⟩) 1 [.int .u8 y.toNat] 1 rfl rfl (reads_one (cell_one _ _ _).1) ?e1 ?e2 ?e3 ?e4 ?e5 ?_)
                  case e1 => intro h; cases h
                  case e2 => intro u hu; simp at hu; subst hu; rfl
                  case e3 => unfold maxLen; omega
                  case e4 => omega
                  case e5 => have := HNm.out; simp; omega
                  intro v3 w3 o3 g3 f3
                  have HO3 : Hid (w3.ownsRow N 5 1 v3 (copyN out bk (m + 1)).length (bytesV (copyN out bk (m + 1)))) := hid (by rw [HNX.out, ← bytesV_snoc, List.length_append]; exact o3)
                  have tg := Touch.grown g3
                  have M1 := hid ((World.cell?_of_block (tg.block _ (by have := HGlt2.out; simp; omega) HGm.out)).trans (cell_past _ n1))
                  have M2 := hid ((World.cell?_of_block (tg.block _ (by have := HGlt2.out; simp; omega) HGm.out)).trans (cell_past _ n2))
                  have HB3 : Hid (Below N w w3) := hid (Touch.below (HBm.out.alloc HNm.out (.cells #[.int .u8 y.toNat] 5)) (by have := HNm.out; simp; omega) tg (fun q hq => HOBm.out q (by simpa using hq)))
                  have HG3 : Hid (G ∉ v3.ownBlock.toList) := hid (by
                    rcases f3 with f3 | f3
                    · rw [f3]; exact HGm.out
                    · rw [f3]; have := HGlt2.out; simp; omega)
                  clear o3 g3 f3 tg n1 n2 hpb hcell2
                  go_wp2
                  go_roundw
                  case rel => exact ⟨m + 1, by omega, by go_num, HO3, HG3, M1, M2, HB3⟩
                  case measure => simp [intOf]; omega
                · obtain rfl : m = n := by omega
                  have dm : decide (m < m) = false := by simp
                  go_wp2
                  go_roundw
                  case rel => exact ⟨k + 1, copyN out bk m, by omega, by go_num, by rw [copyN_length]; omega, HX2, HOm, HBm⟩
                  case measure => simp [intOf]; omega
      · have r2 : rightB ⟨tl, tn, tb⟩ = false := by simpa using r
        rw [expand_4 (.inl r2)] at HX1
        subst HX1
        rw [r2]
        clear r r2
        go_wp2
        go_ret2
        exact ⟨none, 0, rfl, ⟨by simp [bytesV], fun i hi => absurd hi (by simp [bytesV])⟩, fun _ => rfl, by rw [HN.out]; exact HB1.out⟩
    · have hdr : l.drop k = [] := List.drop_eq_nil_of_le (by omega)
      have HX1 := HX.out
      rw [hdr] at HX1
      subst HX1
      obtain ⟨Av, cv, rfl, hrd, hnil, hbk, hcap⟩ := own_reads_at HO.out (by omega)
      have HRD := hid hrd
      have HNIL := hid hnil
      have dl : decide (k < l.length) = false := by simpa using hlt
      clear hrd hnil hbk hdr
      go_wp2_with fail
      refine (clip_any _ _ _ _ hcap HNIL.out).mono ?_
      rintro e w1 ⟨rfl, rfl⟩
      go_wp2
      go_ret2
      exact ⟨Av, out.length, rfl, HRD.out, fun h => by have := HNIL.out h; omega, by rw [HN.out]; exact HB.out⟩
end Go.Proofs.Ytaoodggdopdkeaa
