/- The document's tape in memory: Room. -/
import Derived.Test.YthieemfcmehdiaaCut
import Derived.Deep.DeepCutAuto
namespace Go.Proofs.Ythieemfcmehdiaa
open Go.RowKit
set_option linter.unusedSimpArgs false
set_option linter.unusedVariables false
/-- the document's tape as a value; it lies outside block T -/
def RefIs (w : World) (T cap : Nat) (xs : List Thing) (safe : Nat) (A : Option Addr) (c : Nat) : Prop := Items w T A xs ∧ (A = none → c = 0) ∧ used xs ≤ cap ∧ cap ≤ 16777216 ∧ xs.length ≤ c ∧ safe ≤ xs.length
abbrev refV (cap n safe : Nat) (A : Option Addr) (c : Nat) : Value := .agg #[.int .i64 cap, .slice A n c, .int .i64 safe]
theorem RefIs.keep {w w' : World} {T cap safe c : Nat} {xs : List Thing} {A : Option Addr} (h : RefIs w T cap xs safe A c) (r : Rest T w w') : RefIs w' T cap xs safe A c := ⟨h.1.keep r, h.2⟩
theorem RefIs.len {w : World} {T cap safe c : Nat} {xs : List Thing} {A : Option Addr} (h : RefIs w T cap xs safe A c) : xs.length ≤ 2097152 := by
  have h1 := h.2.2.1
  have h2 := h.2.2.2.1
  have h3 := used_len xs
  omega
theorem used_take_succ {xs : List Thing} {k : Nat} (h : k < xs.length) : used (xs.take (k + 1)) = used (xs.take k) + cost xs[k] := by
  rw [List.take_succ_eq_append_getElem h, used_snoc]
set_option maxHeartbeats 4000000 in
set_option maxRecDepth 100000 in
theorem room_ref {w : World} {T cap safe c : Nat} {xs : List Thing} {A : Option Addr} (h : RefIs w T cap xs safe A c) :
    Calls Try.prog 17 #[refV cap xs.length safe A c] w fun e w' => e = .returned (.int .i64 ((cap : Int) - used xs)) ∧ Below w.heap.size w w' := by
  have hl := h.len
  have H := hid (h.keep (Rest.below (below_new w (.cells #[.int .i64 cap, .slice A xs.length c, .int .i64 safe] 29))))
  clear h
  go_enter Try.func17, Try.ntmps17
  go_wp2
  obtain ⟨W, hW⟩ : ∃ W, w.alloc (.cells #[.int .i64 cap, .slice A xs.length c, .int .i64 safe] 29) = W := ⟨_, rfl⟩
  have b0 := below_new w (.cells #[.int .i64 cap, .slice A xs.length c, .int .i64 safe] 29)
  have g1 : W.cell? ⟨w.heap.size, 1, none⟩ = some (.slice A xs.length c) := by rw [← hW]; exact (cell_new w _ 29 (0, 0) 1).trans rfl
  rw [hW] at H b0 ⊢
  obtain ⟨G, hG⟩ : ∃ G, w.heap.size = G := ⟨_, rfl⟩
  rw [hG] at g1 ⊢
  have B0 := hid b0
  have HG := hid hG
  clear hW b0 hG
  go_loopw [3, 4] (fun v i wr => ∃ k : Nat, ∃ r : Int, k ≤ xs.length ∧ i = .int .i64 k ∧ v = .int .i64 r ∧ Hid (r = (cap : Int) - used (xs.take k)) ∧ wr = W) (fun _ i _ => xs.length - (intOf i).toNat)
  case atStart => exact ⟨0, _, by omega, rfl, rfl, hid (by simp [used]), rfl⟩
  case round =>
    obtain ⟨k, r, hk, rfl, rfl, HR, rfl⟩ := hrel
    by_cases hlt : k < xs.length
    · have dl : decide (k < xs.length) = true := by simpa using hlt
      obtain ⟨ad, rfl, hT, hb, B, kB, hs2, hO⟩ := H.out.1 k hlt
      have hus := used_take_succ hlt
      obtain ⟨x, hx⟩ : ∃ x, xs[k] = x := ⟨_, rfl⟩
      rw [hx] at hs2 hus
      rw [add_one', Nat.mul_comm] at hs2
      have hki : (k : Int) < (xs.length : Int) := by omega
      have hk0 : (0 : Int) ≤ (k : Int) := by omega
      have hf := H.out.2.2.1
      have hsm := H.out.2.2.2.1
      have hp1 := used_parts xs (k + 1)
      have hr := HR.out
      have hc8 : cost x = 8 + x.2.length := rfl
      have w1 : IntKind.i64.wrap (r - 8) = r - 8 := IntWalk.i64_in _ (by omega)
      have w2 : IntKind.i64.wrap (r - 8 - (x.2.length : Int)) = r - 8 - (x.2.length : Int) := IntWalk.i64_in _ (by omega)
      have HUS := hid (show (cap : Int) - used (xs.take (k + 1)) = r - 8 - (x.2.length : Int) by omega)
      clear hb hO hx hus hf hsm hp1 hr hc8
      go_wp2
      go_roundw
      case rel => exact ⟨k + 1, _, by omega, by go_num, rfl, hid HUS.out.symm, trivial⟩
      case measure => simp [intOf]; omega
    · have dl : decide (k < xs.length) = false := by simpa using hlt
      go_wp2
      go_ret
      have := HR.out
      rw [List.take_of_length_le (by omega)] at this
      exact ⟨by rw [this]; rfl, HG.out ▸ B0.out⟩
end Go.Proofs.Ythieemfcmehdiaa
