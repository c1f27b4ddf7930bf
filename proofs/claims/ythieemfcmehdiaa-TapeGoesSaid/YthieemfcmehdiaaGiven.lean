/- given: a tape's items as the document's. -/
import Derived.Test.YthieemfcmehdiaaRefRow
import Derived.Test.YthieemfcmehdiaaSameT
namespace Go.Proofs.Ythieemfcmehdiaa
open Go.RowKit
set_option linter.unusedSimpArgs false
set_option linter.unusedVariables false
/-- the cells of items whose bytes are read in w -/
def RowOf (w : World) (xs : List Thing) (cs : List Value) : Prop := cs.length = xs.length * 2 ∧ ∀ i (h : i < xs.length), cs[i * 2]? = some (.bool xs[i].1) ∧ ∃ B k, cs[i * 2 + 1]? = some (.slice B xs[i].2.length k) ∧ Reads w B (bytesV xs[i].2)
theorem RowOf.snoc {w : World} {xs : List Thing} {cs : List Value} (h : RowOf w xs cs) {b : Bool} {B : Option Addr} {k : Nat} {l : List UInt8} (hx : Reads w B (bytesV l)) : RowOf w (xs ++ [(b, l)]) (cs ++ [.bool b, .slice B l.length k]) := by
  have hl := h.1
  refine ⟨by simp; omega, fun i hi => ?_⟩
  by_cases hlt : i < xs.length
  · obtain ⟨o1, B', k', o2, o3⟩ := h.2 i hlt
    rw [List.getElem_append_left hlt]
    exact ⟨by rw [List.getElem?_append_left (by omega)]; exact o1, B', k', by rw [List.getElem?_append_left (by omega)]; exact o2, o3⟩
  · have hie : i = xs.length := by simp at hi; omega
    subst hie
    rw [List.getElem_concat_length (by rfl)]
    refine ⟨?_, B, k, ?_, hx⟩
    · rw [List.getElem?_append_right (by omega), hl]; simp
    · rw [List.getElem?_append_right (by omega), hl, show xs.length * 2 + 1 - xs.length * 2 = 1 by omega]; rfl
theorem RowOf.next {w : World} {xs : List Thing} {cs : List Value} {k : Nat} {x : Thing} {B : Option Addr} {c : Nat} (h : RowOf w (xs.take k) cs) (hx : xs[k]? = some x) (hr : Reads w B (bytesV x.2)) : RowOf w (xs.take (k + 1)) (cs ++ [.bool x.1, .slice B x.2.length c]) := by
  obtain ⟨hlt, rfl⟩ := List.getElem?_eq_some_iff.1 hx
  rw [List.take_succ_eq_append_getElem hlt]
  exact h.snoc hr
theorem RowOf.reads {w W : World} {xs : List Thing} {cs : List Value} {v : Value} {base : Nat} (h : RowOf w xs cs) (b : Below w.heap.size w W) (ho : W.ownsRow base 45 2 v xs.length cs) (hn : xs.length ≤ 9223372036854775807) : ∃ A c, v = .slice A xs.length c ∧ ReadsI W A xs ∧ (A = none → c = 0) ∧ xs.length ≤ c := by
  rcases ho.2 with ⟨rfl, h0⟩ | ⟨g, cap, cur, rfl, hb, hg, hnc, _⟩
  · obtain rfl := List.eq_nil_of_length_eq_zero h0
    exact ⟨none, 0, rfl, ⟨by simp, fun i hi => absurd hi (by simp)⟩, fun _ => rfl, by simp⟩
  · refine ⟨some ⟨g, 0, none⟩, cap, rfl, ⟨hn, fun i hi => ?_⟩, fun h => (by cases h), hnc⟩
    have row := ho.cells (g := g) rfl
    obtain ⟨o1, B, k, o2, o3⟩ := h.2 i hi
    have c1 := row _ _ o2
    rw [add_one'] at c1
    exact ⟨⟨g, 0, none⟩, rfl, row _ _ o1, B, k, c1, o3.below b⟩
set_option maxHeartbeats 4000000 in
set_option maxRecDepth 100000 in
theorem given_any {w : World} {A : Option Addr} {xs : List Thing} (c : Nat) (h : ReadsI w A xs) (hl : xs.length ≤ 2097152) :
    Calls Try.prog 30 #[.slice A xs.length c] w fun e w' => (∃ A' c', e = .returned (.slice A' xs.length c') ∧ ReadsI w' A' xs) ∧ Below w.heap.size w w' := by
  have H := hid h
  clear h
  go_enter Try.func30, Try.ntmps30
  go_wp2
  go_loopw [3, 8] (fun v i wr => ∃ (k : Nat) (cs : List Value) (vv : Value), k ≤ xs.length ∧ v = vv ∧ i = .int .i64 k ∧ Hid (RowOf w (xs.take k) cs) ∧ Hid (wr.ownsRow w.heap.size 45 2 vv k cs) ∧ Hid (Below w.heap.size w wr)) (fun _ i _ => xs.length - (intOf i).toNat)
  case atStart => exact ⟨0, [], _, by omega, rfl, rfl, hid ⟨rfl, fun i hi => absurd hi (by simp)⟩, hid (World.ownsRow_nil _ _ _ _), hid (Below.refl _ _)⟩
  case round =>
    obtain ⟨k, cs, v, hk, rfl, rfl, HR, HO, HB⟩ := hrel
    obtain ⟨wo, rfl⟩ : ∃ wo : World, wo = wr := ⟨_, rfl⟩
    by_cases hlt : k < xs.length
    · have dl : decide (k < xs.length) = true := by simpa using hlt
      obtain ⟨ad, rfl, a0, B, kB, a1, hr⟩ := H.out.2 k hlt
      have a0 := cell_below HB.out a0
      have a1 := cell_below HB.out a1
      obtain ⟨x, hx⟩ : ∃ x, xs[k] = x := ⟨_, rfl⟩
      have HX : Hid (xs[k]? = some x) := hid (by rw [List.getElem?_eq_getElem hlt, hx])
      rw [hx] at a0 a1 hr
      have HRD := hid hr
      have hki : (k : Int) < (xs.length : Int) := by omega
      have hk0 : (0 : Int) ≤ (k : Int) := by omega
      clear hx hr
      go_upto_region 5 with (fail)
      have bb := below_new wo (.cells #[.bool x.1, .slice B x.2.length kB] 44)
      have n0 : (wo.alloc (.cells #[.bool x.1, .slice B x.2.length kB] 44)).cell? ⟨wo.heap.size, 0, none⟩ = some (.bool x.1) := (cell_new wo _ 44 (0, 0) 0).trans rfl
      have n1 : (wo.alloc (.cells #[.bool x.1, .slice B x.2.length kB] 44)).cell? ⟨wo.heap.size, 1, none⟩ = some (.slice B x.2.length kB) := (cell_new wo _ 44 (0, 0) 1).trans rfl
      have ho5 := own_kept HO.out (Touch.of_below bb []) (by simp)
      have hb5 := below_trans HB.out bb
      obtain ⟨W5, hW5⟩ : ∃ n, wo.alloc (.cells #[.bool x.1, .slice B x.2.length kB] 44) = n := ⟨_, rfl⟩
      rw [hW5] at n0 n1 ho5 hb5 ⊢
      obtain ⟨g5, hg5⟩ : ∃ g, wo.heap.size = g := ⟨_, rfl⟩
      rw [hg5] at n0 n1 ⊢
      have HO5 := hid ho5
      have HB5 := hid hb5
      have hs5 := hb5.size
      clear bb ho5 hb5 hW5 hg5 a0 a1 HO HB
      go_wp2_with (at_builtin; refine wpList_append_items rfl (.tmp 12) (.tmp 18) rfl w.heap.size _ k cs (by simp [Act.eval]) (own_kept HO5.out (Touch.of_below (below_new W5 _) []) (by simp)) (some ⟨W5.heap.size, 0, none⟩) 1 1 [.bool x.1, .slice B x.2.length kB] (by simp [Act.eval]) rfl (fun h => by cases h) (item_cells ((cell_new W5 #[.bool x.1, .slice B x.2.length kB] 45 (0, 0) 0).trans rfl) ((cell_new W5 #[.bool x.1, .slice B x.2.length kB] 45 (0, 0) 1).trans rfl)) (by intro u hu; simp at hu; rcases hu with rfl | rfl <;> rfl) (by omega) (by simp; omega) ?_)
      intro v6 W6 o6 gr6 ob6
      have b6 := (HB5.out.alloc hs5 (.cells #[.bool x.1, .slice B x.2.length kB] 45)).grown gr6 (by simp; omega) (fun q hq => (HO5.out.lt q hq).1)
      have O6 := hid o6
      have B6 := hid b6
      clear o6 gr6 ob6 b6
      go_wp2_with fail
      go_roundw
      case rel => exact ⟨k + 1, _, _, by omega, rfl, by go_num, hid (HR.out.next HX.out HRD.out), O6, B6⟩
      case measure => simp [intOf]; omega
    · have dl : decide (k < xs.length) = false := by simpa using hlt
      have hke : k = xs.length := by omega
      have hR := HR.out
      have hO := HO.out
      rw [hke, List.take_length] at hR
      rw [hke] at hO
      obtain ⟨A', c', rfl, hr, _⟩ := hR.reads HB.out hO (by omega)
      have HRD := hid hr
      clear hR hO hr
      go_wp2
      go_ret
      exact ⟨⟨A', c', rfl, HRD.out⟩, HB.out⟩
end Go.Proofs.Ythieemfcmehdiaa
