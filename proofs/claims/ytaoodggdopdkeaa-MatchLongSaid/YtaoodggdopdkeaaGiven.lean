/- given; a row of tokens of the call's own, read. -/
import Derived.Test.YtaoodggdopdkeaaExpand
namespace Go.Proofs.Ytaoodggdopdkeaa
open Go.RowKit

theorem flatT_at : ∀ (l : List Tok) (i j : Nat) (h : i < l.length), j < 3 → (flatT l)[i * 3 + j]? = (tokV l[i])[j]?
  | [], i, _, h, _ => absurd h (Nat.not_lt_zero _)
  | t :: l, 0, j, _, hj => by
    simp only [flatT, List.flatMap_cons, Nat.zero_mul, Nat.zero_add]
    rw [List.getElem?_append_left (by simp [tokV]; omega)]
    rfl
  | t :: l, i + 1, j, h, hj => by
    have e : flatT (t :: l) = tokV t ++ flatT l := rfl
    rw [e, List.getElem?_append_right (by simp [tokV]; omega)]
    rw [show (i + 1) * 3 + j - (tokV t).length = i * 3 + j by simp [tokV]; omega]
    exact flatT_at l i j (by simpa using h) hj
theorem cell_newG (w : World) (cs : Array Value) (t : TypeId) {g : Nat} (j : Nat) (hg : g = w.heap.size) : (w.alloc (.cells cs t)).cell? ⟨g, j, none⟩ = cs[j]? := by subst hg; exact cell_new w cs t (0, 0) j
theorem own_readsT {w : World} {base : Nat} {e : TypeId} {v : Value} {l : List Tok} (h : w.ownsRow base e 3 v l.length (flatT l)) (hn : l.length ≤ 9223372036854775807) (hwf : ∀ t ∈ l, t.wf) :
    ∃ A c, v = .slice A l.length c ∧ ReadsT w A l ∧ (A = none → c = 0) ∧ l.length ≤ c := by
  rcases h.2 with ⟨rfl, hz⟩ | ⟨g, cap, cur, rfl, hb, hg, hcap, _, _, ht⟩
  · obtain rfl := List.eq_nil_of_length_eq_zero hz
    exact ⟨none, 0, rfl, ⟨by simp, fun i hi => by simp at hi⟩, fun _ => rfl, Nat.le_refl _⟩
  · have hc : ∀ i j, (hi : i < l.length) → j < 3 → w.cell? ⟨g, i * 3 + j, none⟩ = (tokV l[i])[j]? := fun i j hi hj => by
      have e := flatT_at l i j hi hj
      have hlt : j < (tokV l[i]).length := by simpa [tokV] using hj
      rw [List.getElem?_eq_getElem hlt] at e ⊢
      have h' := h.cells (g := g) rfl (i * 3 + j) _ e
      rw [add_plain'] at h'
      exact h'
    refine ⟨some ⟨g, 0, none⟩, cap, rfl, ⟨hn, fun i hi => ⟨_, rfl, ?_, ?_, ?_, hwf _ (List.getElem_mem hi)⟩⟩, fun h => (by cases h), by omega⟩
    · rw [add_plain']; exact hc i 0 hi (by omega)
    · rw [add_plain']; exact hc i 1 hi (by omega)
    · rw [add_plain']; exact hc i 2 hi (by omega)
set_option maxHeartbeats 2000000 in
set_option maxRecDepth 100000 in
theorem given_any (A : Option Addr) (c : Nat) (l : List Tok) (w : World) (hl : ReadsT w A l) (hn : l.length ≤ 1000000) :
    Calls Try.prog 12 #[.slice A l.length c] w fun e w' => ∃ v, e = .returned v ∧ w'.ownsRow w.heap.size 30 3 v l.length (flatT l) ∧ Below w.heap.size w w' := by
  have HL := hid hl
  clear hl
  obtain ⟨N, hN⟩ : ∃ N, w.heap.size = N := ⟨_, rfl⟩
  have HN := hid hN
  rw [hN]
  clear hN
  go_enter Try.func12, Try.ntmps12
  go_wp2
  go_loopw [3, 8] (fun v i wr => ∃ (k : Nat) (ts : List Tok), k ≤ l.length ∧ i = .int .i64 k ∧ Hid (l.take k = ts) ∧ Hid (wr.ownsRow N 30 3 v ts.length (flatT ts)) ∧ Hid (Below N w wr)) (fun _ i _ => l.length - (intOf i).toNat)
  case atStart => exact ⟨0, [], Nat.zero_le _, rfl, hid rfl, hid (World.ownsRow_nil _ _ _ _), hid (by rw [← HN.out]; exact Below.refl _ _)⟩
  case round =>
    obtain ⟨k, ts, hk, rfl, HT, HO, HB⟩ := hrel
    by_cases hlt : k < l.length
    · have dl : decide (k < l.length) = true := by simpa using hlt
      obtain ⟨ad, rfl, c0, c1, c2, hwf⟩ := (HL.out.below (by rw [HN.out]; exact HB.out)).2 k hlt
      have hsn := take_snoc hlt
      obtain ⟨t, ht⟩ : ∃ t, l[k] = t := ⟨_, rfl⟩
      rw [ht] at c0 c1 c2 hsn hwf
      rw [HT.out] at hsn
      have HSN := hid hsn
      have HTL : Hid (ts.length ≤ 5000000) := hid (by rw [← HT.out]; simp; omega)
      have HNs : Hid (N ≤ wr.heap.size) := hid (by have := HB.out.size; rw [HN.out] at this; exact this)
      clear hsn ht
      go_wp2_with (at_builtin; refine wpList_append_tok rfl (.tmp 12) (.tmp 20) 26 30 rfl Try.underlying26 info30 N _ ts rfl ((HO.out.alloc _).alloc _) (wr.heap.size + 1) t rfl ?c0 ?c1 ?c2 ?c3 ?c4 ?_)
      case c0 => exact (cell_newG _ _ _ 0 (by simp)).trans rfl
      case c1 => exact (cell_newG _ _ _ 1 (by simp)).trans rfl
      case c2 => exact (cell_newG _ _ _ 2 (by simp)).trans rfl
      case c3 => exact HTL.out
      case c4 => have := HNs.out; simp; omega
      intro v3 w3 o3 g3
      have HO3 := hid o3
      have tg := Touch.grown g3
      have HB3 : Hid (Below N w w3) := hid (Touch.below ((HB.out.alloc HNs.out (.cells #[.int .u8 t.lit.toNat, .int .i64 t.len, .int .i64 t.back] 33)).alloc (by have := HNs.out; simp; omega) (.cells #[.int .u8 t.lit.toNat, .int .i64 t.len, .int .i64 t.back] 30)) (by have := HNs.out; simp; omega) tg (fun q hq => (own_block_lt HO.out (by simpa using hq)).1))
      clear o3 g3 tg
      go_wp2
      go_roundw
      case rel => exact ⟨k + 1, ts ++ [t], by omega, by go_num, HSN, hid (by rw [List.length_append]; exact HO3.out), HB3⟩
      case measure => simp [intOf]; omega
    · have hk2 : l.take k = l := List.take_of_length_le (by omega)
      have e := HT.out
      rw [hk2] at e
      subst e
      have dl : decide (k < l.length) = false := by simpa using hlt
      clear hk2
      go_wp2
      go_ret
      exact ⟨_, rfl, HO.out, HB.out⟩
end Go.Proofs.Ytaoodggdopdkeaa
