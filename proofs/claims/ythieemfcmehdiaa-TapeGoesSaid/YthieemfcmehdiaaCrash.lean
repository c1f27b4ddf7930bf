/- Crash of a tape. -/
import Derived.Test.YthieemfcmehdiaaCut
import Derived.Test.YthieemfcmehdiaaPutYes
import Derived.Deep.DeepCutAuto
namespace Go.Proofs.Ythieemfcmehdiaa
open Go.RowKit
set_option linter.unusedSimpArgs false
set_option linter.unusedVariables false
def crashN (safe len : Nat) (keep : Int) : Nat := safe + min keep.toNat (len - safe)
def tailOf (x : Option Thing) (torn : Int) : List Thing :=
  match x with
  | some (false, l) => if 0 < torn ∧ l ≠ [] then [(false, l.take (min torn.toNat (l.length - 1)))] else []
  | _ => []
theorem bytes_take {w : World} {T : Nat} {B : Option Addr} {k : Nat} {l : List UInt8} (h : BytesOut w T B k l) (m : Nat) (hm : m ≤ l.length) : BytesOut w T B k (l.take m) := by
  have hl : (bytesV (l.take m)).length = m := by simp [bytesV]; omega
  refine ⟨⟨by have := h.1.1; simp [bytesV] at this ⊢; omega, fun i hi => ?_⟩, ⟨h.2.1.1, by have := h.2.1.2; simp; omega⟩, fun h0 => h.2.2 (by rintro rfl; simp at h0)⟩
  obtain ⟨ad, e, hc⟩ := h.1.2 i (by simp [bytesV] at hi ⊢; omega)
  exact ⟨ad, e, by rw [hc]; simp [bytesV]⟩
theorem synced_at {w : World} {T cap safe c : Nat} {xs : List Thing} {A : Option Addr} (h : IsTape w T cap xs safe A c) (v : Int) (hv : v = xs.length) : IsTape (w.setCell ⟨T, 2, none⟩ (.int .i64 v)) T cap xs xs.length A c := by subst hv; exact h.synced
theorem tail_some {x : Option Thing} {torn : Int} {tl : List Thing} (h : tailOf x torn = tl) (hne : tl ≠ []) : ∃ l, x = some (false, l) ∧ 0 < torn ∧ l ≠ [] ∧ tl = [(false, l.take (min torn.toNat (l.length - 1)))] := by
  subst h
  unfold tailOf at hne ⊢
  split at hne
  · rename_i l
    by_cases hc : 0 < torn ∧ l ≠ []
    · exact ⟨l, rfl, hc.1, hc.2, by simp [hc]⟩
    · rw [if_neg hc] at hne; exact absurd rfl hne
  · exact absurd rfl hne
set_option maxHeartbeats 4000000 in
set_option maxRecDepth 100000 in
theorem crash_any {w : World} {T cap safe c : Nat} {xs : List Thing} {A : Option Addr} (h : IsTape w T cap xs safe A c) (keep torn : Int) (n : Nat) (hn : crashN safe xs.length keep = n) (tl : List Thing) (htl : tailOf xs[n]? torn = tl) :
    Calls Try.prog 22 #[.pointer (some ⟨T, 0, none⟩), .int .i64 keep, .int .i64 torn] w fun e w' => (∃ v, e = .returned v) ∧ ∃ A' c', IsTape w' T cap (xs.take n ++ tl) (xs.take n ++ tl).length A' c' ∧ Touch [T] w w' := by
  have H := hid h
  have c1 := h.c1
  have c2 := h.c2
  have hl : xs.length ≤ 2097152 := by
    have h1 := h.fits
    have h2 := h.small
    have h3 := used_len xs
    omega
  have hs := h.safe
  have w1 : IntKind.i64.wrap ((xs.length : Int) - safe) = (xs.length : Int) - safe := IntWalk.i64_in _ (by omega)
  have hnl : n ≤ xs.length := by unfold crashN at hn; omega
  have HTL := hid htl
  have HN := hid hn
  clear h htl hn
  go_enter Try.func22, Try.ntmps22
  go_upto_region 1 with (fail)
  go_cut [6] (fun s wx => s = .int .i64 (n : Int) ∧ wx = w.drew)
  case first =>
    have hi : (safe : Int) + (if (xs.length : Int) - safe < (if keep < 0 then 0 else keep) then (xs.length : Int) - safe else (if keep < 0 then 0 else keep)) = (n : Int) := by
      have h1 := HN.out
      unfold crashN at h1
      split <;> split <;> omega
    have HI := hid hi
    clear hi
    go_region
    go_wp2_with fail
    all_goals go_meet
    all_goals refine ⟨congrArg (Value.int .i64) ?_, rfl⟩
    all_goals (have h1 := HN.out; unfold crashN at h1; clear HI; first | omega | (split at * <;> omega))
  case rest =>
    obtain ⟨rfl, rfl⟩ := hcut
    clear w1 c2
    go_upto_region 3 with (fail)
    go_cut [63] (fun s wx => s = .bool (decide (tl ≠ [])) ∧ wx = w.drew)
    case first =>
      by_cases hlt : n < xs.length
      · have dl : decide (n < xs.length) = true := by simpa using hlt
        obtain ⟨ad, rfl, hT, hb, B, kB, hs2, hO⟩ := H.out.items n hlt
        obtain ⟨x, hx⟩ : ∃ x, xs[n] = x := ⟨_, rfl⟩
        have HX : Hid (xs[n]? = some x) := hid (by rw [List.getElem?_eq_getElem hlt, hx])
        rw [hx] at hb hs2 hO
        rw [add_one'] at hs2
        rw [Nat.mul_comm] at hb hs2
        have hki : (n : Int) < (xs.length : Int) := by omega
        have hk0 : (0 : Int) ≤ (n : Int) := by omega
        clear hx hO
        obtain ⟨m, l⟩ := x
        cases m with
        | true =>
          have e1 : tl = [] := by rw [← HTL.out, HX.out]; rfl
          subst e1
          go_wp2_with fail
          go_meet
          exact ⟨rfl, rfl⟩
        | false =>
          by_cases ht : 0 < torn
          · have dt : decide ((0 : Int) < torn) = true := by simpa using ht
            cases l with
            | nil =>
              have e1 : tl = [] := by rw [← HTL.out, HX.out]; simp [tailOf]
              subst e1
              go_wp2_with fail
              go_meet
              exact ⟨rfl, rfl⟩
            | cons y l =>
              have e1 : tl ≠ [] := by rw [← HTL.out, HX.out]; simp [tailOf, ht]
              have e2 : decide (tl ≠ []) = true := by simpa using e1
              have E2 := hid e2
              have dp : decide ((0 : Int) < (l.length : Int) + 1) = true := by simp; try omega
              clear e1 e2
              go_wp2_with fail
              go_meet
              exact ⟨by rw [E2.out], rfl⟩
          · have dt : decide ((0 : Int) < torn) = false := by simpa using ht
            have e1 : tl = [] := by rw [← HTL.out, HX.out]; simp [tailOf, ht]
            subst e1
            go_wp2_with fail
            go_meet
            exact ⟨rfl, rfl⟩
      · have dl : decide (n < xs.length) = false := by simpa using hlt
        have e1 : tl = [] := by rw [← HTL.out, List.getElem?_eq_none (by omega)]; rfl
        subst e1
        go_wp2_with fail
        go_meet
        exact ⟨rfl, rfl⟩
    case rest =>
      obtain ⟨rfl, rfl⟩ := hcut
      have h0 : IsTape w.drew T cap xs safe A c := H.out.below ((Below.refl w.heap.size w).drew)
      have H0 := hid h0
      clear h0
      by_cases ht : tl = []
      · subst ht
        go_wp2_with fail
        refine (cut_any H0.out n hnl).mono ?_
        rintro e w1 ⟨rfl, h1, t1⟩
        have H1 := hid h1
        have T1 := hid t1
        clear h1 t1 c1
        go_wp2_with fail
        go_loopw [92] (fun i wr => i = .int .i64 0 ∧ wr = w1) (fun _ _ => 0)
        case atStart => exact ⟨rfl, rfl⟩
        case round =>
          obtain ⟨rfl, rfl⟩ := hrel
          go_wp2_with fail
          refine (sync_any H1.out).mono ?_
          rintro e w2 ⟨⟨v, rfl⟩, rfl⟩
          go_wp2_with fail
          go_end0
          refine ⟨⟨_, rfl⟩, A, n, ?_, ?_⟩
          · rw [List.append_nil]; exact synced_at H1.out _ (by simp; omega)
          · exact ((Touch.of_below ((Below.refl w.heap.size w).drew) [T]).trans T1.out (by simp)).trans (Touch.setCell wr ⟨T, 2, none⟩ _) (by simp)
      · have dt : decide (tl ≠ []) = true := by simpa using ht
        rw [dt]
        obtain ⟨l, hx, htp, hle, htl⟩ := tail_some HTL.out ht
        have hlt : n < xs.length := by rcases Nat.lt_or_ge n xs.length with h | h; exact h; rw [List.getElem?_eq_none h] at hx; cases hx
        obtain ⟨ad, rfl, hT, hb, B, kB, hs2, hO⟩ := H.out.items n hlt
        have hxe : xs[n] = (false, l) := by rw [List.getElem?_eq_getElem hlt] at hx; exact Option.some.inj hx
        rw [hxe] at hb hs2 hO
        rw [add_one'] at hs2
        rw [Nat.mul_comm] at hb hs2
        have hki : (n : Int) < (xs.length : Int) := by omega
        have hk0 : (0 : Int) ≤ (n : Int) := by omega
        have hll : l.length ≤ kB := hO.2.1.2
        have hl20 : l.length ≤ 20000000 := by
          have h1 := H.out.fits
          have h2 := H.out.small
          have h3 := used_mem (List.getElem_mem hlt)
          rw [hxe] at h3
          unfold cost at h3
          simp only at h3
          omega
        have hl1 : 1 ≤ l.length := by cases l with | nil => exact absurd rfl hle | cons => simp
        have w8 : IntKind.i64.wrap ((l.length : Int) - 1) = (l.length : Int) - 1 := IntWalk.i64_in _ (by omega)
        have HO := hid hO
        have HXE := hid hxe
        have HTL2 := hid htl
        have HLE := hid hle
        clear hx hxe hO htl hle ht dt
        go_wp2_with fail
        go_region
        all_goals go_wp2_with fail
        case inl =>
          obtain ⟨m, hm⟩ : ∃ m : Nat, l.length - 1 = m := ⟨_, rfl⟩
          rw [hm]
          have hmm : min torn.toNat (l.length - 1) = m := by omega
          have ht2 := HTL2.out
          rw [hmm] at ht2
          subst ht2
          have hml : m < l.length := by omega
          have hlen : (l.take m).length = m := by simp; omega
          obtain ⟨W, hW⟩ : ∃ W, (w.alloc (.cells #[.bool false, .slice B m kB] 44)).drew.drew = W := ⟨_, rfl⟩
          rw [hW]
          have bW : Below w.heap.size w W := by rw [← hW]; exact ((below_new w _).drew).drew
          have gW : W.heap[w.heap.size]? = some (.cells #[.bool false, .slice B m kB] 44 (0, 0)) := by rw [← hW]; exact block_new w _
          have hTG : T < w.heap.size := H.out.lt
          obtain ⟨G, hG⟩ : ∃ G, w.heap.size = G := ⟨_, rfl⟩
          rw [hG] at gW hTG ⊢
          have hGW : G < W.heap.size := (Array.getElem?_eq_some_iff.1 gW).1
          have hOW : BytesOut W T B kB (l.take m) := bytes_take (HO.out.keep (Rest.below bW)) m (by omega)
          have HOW := hid hOW
          have hroom : used (xs.take n) + (8 + (l.take m).length) ≤ cap := by
            have h1 := H.out.fits
            have h2 := used_parts xs n
            have h3 := used_cut hlt
            rw [HXE.out] at h3
            unfold cost at h3
            simp only at h3
            omega
          have HROOM := hid hroom
          have HLEN := hid hlen
          have BW := hid bW
          have GW := hid gW
          clear hm hmm hW bW gW hG hOW hlen hroom hb hs2 c1 w8 hml
          refine (cut_any (H.out.below BW.out) n hnl).mono ?_
          rintro e w1 ⟨rfl, h1, t1⟩
          have H1 := hid h1
          have T1 := hid t1
          have g1 : w1.heap[G]? = some (.cells #[.bool false, .slice B m kB] 44 (0, 0)) := (t1.block G hGW (by simp; omega)).trans GW.out
          have HO1 := hid (HOW.out.keep (rest_touch t1))
          have d0 : w1.cell? ⟨G, 0, none⟩ = some (.bool false) := (cell_of_row w1 G 0 _ _ _ g1).trans rfl
          have d1 : w1.cell? ⟨G, 1, none⟩ = some (.slice B m kB) := (cell_of_row w1 G 1 _ _ _ g1).trans rfl
          clear h1 t1 g1 hTG hGW
          go_wp2_with fail
          go_loopw [92] (fun i wr => (i = .int .i64 0 ∧ wr = w1) ∨ (i = .int .i64 1 ∧ ∃ A' c', Hid (IsTape wr T cap (xs.take n ++ [(false, l.take m)]) (min safe n) A' c') ∧ Hid (Touch [T] w wr))) (fun i _ => 1 - (intOf i).toNat)
          case atStart => exact Or.inl ⟨rfl, rfl⟩
          case round =>
            rcases hrel with ⟨rfl, rfl⟩ | ⟨rfl, A', c', H2, T2⟩
            · go_wp2_with fail
              have q := put_yes (H1.out.below (below_new wr (.cells #[.bool false, .slice B m kB] 44))) false B kB (l.take m) (HO1.out.keep (Rest.below (below_new wr _))) HROOM.out
              rw [HLEN.out] at q
              refine q.mono ?_
              clear q
              rintro e w3 ⟨rfl, A', c', h3, t3⟩
              have H3 := hid h3
              have T3 := hid t3
              clear h3 t3 d0 d1
              go_wp2_with fail
              go_roundw
              case rel => exact Or.inr ⟨rfl, A', c', H3, hid ((((Touch.of_below BW.out [T]).trans T1.out (by simp)).trans (Touch.of_below (below_new wr _) [T]) (by simp)).trans T3.out (by simp))⟩
              case measure => simp [intOf]
            · go_wp2_with fail
              refine (sync_any H2.out).mono ?_
              rintro e w4 ⟨⟨v, rfl⟩, rfl⟩
              go_wp2_with fail
              go_end0
              exact ⟨⟨_, rfl⟩, A', c', synced_at H2.out _ (by simp; omega), T2.out.trans (Touch.setCell wr ⟨T, 2, none⟩ _) (by simp)⟩
        case inr =>
          obtain ⟨m, hm⟩ : ∃ m : Nat, torn.toNat = m := ⟨_, rfl⟩
          rw [hm]
          have hmm : min torn.toNat (l.length - 1) = m := by omega
          have ht2 := HTL2.out
          rw [hmm] at ht2
          subst ht2
          have hml : m < l.length := by omega
          have hlen : (l.take m).length = m := by simp; omega
          obtain ⟨W, hW⟩ : ∃ W, (w.alloc (.cells #[.bool false, .slice B m kB] 44)).drew.drew = W := ⟨_, rfl⟩
          rw [hW]
          have bW : Below w.heap.size w W := by rw [← hW]; exact ((below_new w _).drew).drew
          have gW : W.heap[w.heap.size]? = some (.cells #[.bool false, .slice B m kB] 44 (0, 0)) := by rw [← hW]; exact block_new w _
          have hTG : T < w.heap.size := H.out.lt
          obtain ⟨G, hG⟩ : ∃ G, w.heap.size = G := ⟨_, rfl⟩
          rw [hG] at gW hTG ⊢
          have hGW : G < W.heap.size := (Array.getElem?_eq_some_iff.1 gW).1
          have hOW : BytesOut W T B kB (l.take m) := bytes_take (HO.out.keep (Rest.below bW)) m (by omega)
          have HOW := hid hOW
          have hroom : used (xs.take n) + (8 + (l.take m).length) ≤ cap := by
            have h1 := H.out.fits
            have h2 := used_parts xs n
            have h3 := used_cut hlt
            rw [HXE.out] at h3
            unfold cost at h3
            simp only at h3
            omega
          have HROOM := hid hroom
          have HLEN := hid hlen
          have BW := hid bW
          have GW := hid gW
          clear hm hmm hW bW gW hG hOW hlen hroom hb hs2 c1 w8 hml
          refine (cut_any (H.out.below BW.out) n hnl).mono ?_
          rintro e w1 ⟨rfl, h1, t1⟩
          have H1 := hid h1
          have T1 := hid t1
          have g1 : w1.heap[G]? = some (.cells #[.bool false, .slice B m kB] 44 (0, 0)) := (t1.block G hGW (by simp; omega)).trans GW.out
          have HO1 := hid (HOW.out.keep (rest_touch t1))
          have d0 : w1.cell? ⟨G, 0, none⟩ = some (.bool false) := (cell_of_row w1 G 0 _ _ _ g1).trans rfl
          have d1 : w1.cell? ⟨G, 1, none⟩ = some (.slice B m kB) := (cell_of_row w1 G 1 _ _ _ g1).trans rfl
          clear h1 t1 g1 hTG hGW
          go_wp2_with fail
          go_loopw [92] (fun i wr => (i = .int .i64 0 ∧ wr = w1) ∨ (i = .int .i64 1 ∧ ∃ A' c', Hid (IsTape wr T cap (xs.take n ++ [(false, l.take m)]) (min safe n) A' c') ∧ Hid (Touch [T] w wr))) (fun i _ => 1 - (intOf i).toNat)
          case atStart => exact Or.inl ⟨rfl, rfl⟩
          case round =>
            rcases hrel with ⟨rfl, rfl⟩ | ⟨rfl, A', c', H2, T2⟩
            · go_wp2_with fail
              have q := put_yes (H1.out.below (below_new wr (.cells #[.bool false, .slice B m kB] 44))) false B kB (l.take m) (HO1.out.keep (Rest.below (below_new wr _))) HROOM.out
              rw [HLEN.out] at q
              refine q.mono ?_
              clear q
              rintro e w3 ⟨rfl, A', c', h3, t3⟩
              have H3 := hid h3
              have T3 := hid t3
              clear h3 t3 d0 d1
              go_wp2_with fail
              go_roundw
              case rel => exact Or.inr ⟨rfl, A', c', H3, hid ((((Touch.of_below BW.out [T]).trans T1.out (by simp)).trans (Touch.of_below (below_new wr _) [T]) (by simp)).trans T3.out (by simp))⟩
              case measure => simp [intOf]
            · go_wp2_with fail
              refine (sync_any H2.out).mono ?_
              rintro e w4 ⟨⟨v, rfl⟩, rfl⟩
              go_wp2_with fail
              go_end0
              exact ⟨⟨_, rfl⟩, A', c', synced_at H2.out _ (by simp; omega), T2.out.trans (Touch.setCell wr ⟨T, 2, none⟩ _) (by simp)⟩
end Go.Proofs.Ythieemfcmehdiaa
