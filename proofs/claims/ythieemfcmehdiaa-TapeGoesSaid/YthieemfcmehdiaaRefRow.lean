/- A slice of the document's items that the call owns: appended to, read. -/
import Derived.Test.YthieemfcmehdiaaRefRoom
import Derived.Test.YthieemfcmehdiaaOlds
import Derived.Test.YthieemfcmehdiaaLast
namespace Go.Proofs.Ythieemfcmehdiaa
open Go.RowKit
section
variable {P : Program} {ops : Array Oper} {Q : Exit → Act → World → Prop} {md : Region.Mode} {S : World → Prop} {L : Nat}
theorem two_last {i j : Nat} {fuel : Nat} {listed : Array Bool} {a : Act} {w : World} (hr : Region.ready md ops listed = [i, j])
    (h1 : wpOp P ops Q i (fun a' w' => (i ≠ L → S w') ∧ wpAnyL P md ops Q S L fuel (listed.setIfInBounds i true) a' w') a w)
    (h2 : wpOp P ops Q j (fun a' w' => (j ≠ L → S w') ∧ wpAnyL P md ops Q S L fuel (listed.setIfInBounds j true) a' w') a w) : wpAnyL P md ops Q S L (fuel + 1) listed a w :=
  ⟨fun h0 => (by rw [hr] at h0; cases h0), fun k hk => by rw [hr] at hk; simp at hk; rcases hk with rfl | rfl <;> assumption⟩
end
theorem info45 : (Try.prog.info? 45).map (fun i => (i.zero, i.size, i.bytes)) = some (some (.agg #[.bool false, .slice none 0 0]), 2, 32) := by kernel_rfl
/-- the cells of a row of items -/
def Cells (w : World) (T : Nat) (ys : List Thing) (cs : List Value) : Prop := cs.length = ys.length * 2 ∧ OldsOf w T ys ys.length cs
theorem Cells.one {w : World} {T : Nat} {ys : List Thing} {cs : List Value} (h : Cells w T ys cs) : ∀ u ∈ cs, u.oneCell' = true := by
  intro u hu
  obtain ⟨j, hj, rfl⟩ := List.getElem_of_mem hu
  have hlt : j / 2 < ys.length := by have := h.1; omega
  obtain ⟨o1, B, k, o2, _⟩ := h.2 (j / 2) hlt hlt
  rcases Nat.mod_two_eq_zero_or_one j with h0 | h0
  · rw [show 2 * (j / 2) = j by omega, List.getElem?_eq_getElem hj] at o1
    rw [Option.some.inj o1]; rfl
  · rw [show 2 * (j / 2) + 1 = j by omega, List.getElem?_eq_getElem hj] at o2
    rw [Option.some.inj o2]; rfl
theorem Cells.keep {w w' : World} {T : Nat} {ys : List Thing} {cs : List Value} (h : Cells w T ys cs) (r : Rest T w w') : Cells w' T ys cs := ⟨h.1, fun i hi hm => by
  obtain ⟨o1, B, k, o2, o3⟩ := h.2 i hi hm
  exact ⟨o1, B, k, o2, o3.keep r⟩⟩
theorem Cells.nil (w : World) (T : Nat) : Cells w T [] [] := ⟨rfl, fun i hi => absurd hi (by simp)⟩
theorem Cells.snoc {w : World} {T : Nat} {ys : List Thing} {cs : List Value} (h : Cells w T ys cs) {b : Bool} {B : Option Addr} {k : Nat} {l : List UInt8} (hx : BytesOut w T B k l) : Cells w T (ys ++ [(b, l)]) (cs ++ [.bool b, .slice B l.length k]) := by
  have hl := h.1
  refine ⟨by simp; omega, fun i hi _ => ?_⟩
  by_cases hlt : i < ys.length
  · obtain ⟨o1, B', k', o2, o3⟩ := h.2 i hlt hlt
    rw [List.getElem_append_left hlt]
    exact ⟨by rw [List.getElem?_append_left (by omega)]; exact o1, B', k', by rw [List.getElem?_append_left (by omega)]; exact o2, o3⟩
  · have hie : i = ys.length := by simp at hi; omega
    subst hie
    rw [List.getElem_concat_length (by rfl)]
    refine ⟨?_, B, k, ?_, hx⟩
    · rw [List.getElem?_append_right (by omega), hl]; simp [Nat.mul_comm]
    · rw [List.getElem?_append_right (by omega), hl, show 2 * ys.length + 1 - ys.length * 2 = 1 by omega]; rfl
theorem Cells.of {w : World} {T : Nat} {A : Option Addr} {xs : List Thing} (h : Items w T A xs) : ∃ cs, Cells w T xs cs ∧ ∀ ad, A = some ad → ∀ j v, cs[j]? = some v → w.cell? (ad.add j) = some v := by
  obtain ⟨olds, h1, h2, h3⟩ := olds_to h xs.length (Nat.le_refl _)
  exact ⟨olds, ⟨by omega, h3⟩, h2⟩
/-- a row of the call's own, as items -/
theorem Cells.items {w : World} {T base : Nat} {ys : List Thing} {cs : List Value} {v : Value} (h : Cells w T ys cs) (ho : w.ownsRow base 45 2 v ys.length cs) (hT : T < base) :
    ∃ A c, v = .slice A ys.length c ∧ Items w T A ys ∧ (A = none → c = 0) ∧ ys.length ≤ c := by
  rcases ho.2 with ⟨rfl, hn⟩ | ⟨g, cap, cur, rfl, hb, hg, hnc, _, _, ht⟩
  · obtain rfl := List.eq_nil_of_length_eq_zero hn
    exact ⟨none, 0, rfl, fun i hi => absurd hi (by simp), fun _ => rfl, by simp⟩
  · refine ⟨some ⟨g, 0, none⟩, cap, rfl, fun i hi => ?_, fun h => (by cases h), hnc⟩
    have row := ho.cells (g := g) rfl
    obtain ⟨o1, B, k, o2, o3⟩ := h.2 i hi hi
    exact ⟨_, rfl, by simp; omega, row _ _ o1, B, k, row _ _ o2, o3⟩
theorem run_append_items {w : World} (rt base : TypeId) (v : Value) (n : Nat) (xs : List Value) (hown : w.ownsRow base 45 2 v n xs)
    (B : Option Addr) (m c : Nat) (news : List Value) (hl : news.length = m * 2) (hB : B = none → m = 0 ∧ c = 0) (hnews : ∀ ad, B = some ad → ∀ j u, news[j]? = some u → w.cell? (ad.add j) = some u) (h1 : ∀ u ∈ news, u.oneCell' = true)
    (h63 : n + m ≤ 4194304) (hbase : base ≤ w.heap.size) :
    ∃ v' w', (Builtin.append_ #[27, 27] rt #[v, .slice B m c]).run Try.prog w = .ok v' w' ∧ w'.ownsRow base 45 2 v' (n + m) (xs ++ news) ∧ w.grownBy w' v.ownBlock ∧ (v'.ownBlock = v.ownBlock ∨ v'.ownBlock = some w.heap.size) := by
  obtain ⟨i0, hi, hz0, hz1, hz2⟩ := info_parts info45
  cases B with
  | none =>
    obtain ⟨rfl, rfl⟩ := hB rfl
    obtain rfl := List.eq_nil_of_length_eq_zero (by omega : news.length = 0)
    exact ⟨v, w, run_append_owned_none (P := Try.prog) (w := w) base 27 rt 45 i0 2 Try.underlying27 hi v n xs hown, by simpa using hown, ⟨rfl, rfl, rfl, Nat.le_refl _, fun _ _ _ => rfl⟩, .inl rfl⟩
  | some ad =>
    obtain ⟨v', w', r1, r2, r3, _, r5⟩ := run_append_own_at (P := Try.prog) (w := w) base 27 rt 45 i0 _ 2 32 Try.underlying27 hi hz0 hz1 hz2 rfl (by decide) v n xs hown ad m c news hl (hnews ad rfl) h1 (by unfold maxLen; omega) (by omega) hbase
    exact ⟨v', w', r1, r2, r3, r5⟩
theorem step_append_items {w : World} {ops : Array Oper} {o : Oper} {a : Act} {K : Act → World → Prop} {Q : Exit → Act → World → Prop} {E : Prop} (hgd : o.guard = none) (s x : Operand)
    (ho : o.op = .call { callee := .builtin .append, args := #[s, x], argTypes := #[27, 27] })
    (base : Nat) (v : Value) (n : Nat) (xs : List Value) (hs : a.eval s = v) (hown : w.ownsRow base 45 2 v n xs)
    (B : Option Addr) (m c : Nat) (news : List Value) (hx : a.eval x = .slice B m c) (hl : news.length = m * 2) (hB : B = none → m = 0 ∧ c = 0) (hnews : ∀ ad, B = some ad → ∀ j u, news[j]? = some u → w.cell? (ad.add j) = some u) (h1 : ∀ u ∈ news, u.oneCell' = true)
    (h63 : n + m ≤ 4194304) (hbase : base ≤ w.heap.size)
    (h : ∀ v' w', w'.ownsRow base 45 2 v' (n + m) (xs ++ news) → w.grownBy w' v.ownBlock → (v'.ownBlock = v.ownBlock ∨ v'.ownBlock = some w.heap.size) → K (a.put o.dst v') w') :
    if Region.wanted o (yielded ops a.tmps) = true then Oper.wp Try.prog o a w K Q else E := by
  have hw : Region.wanted o (yielded ops a.tmps) = true := by simp [Region.wanted, hgd]
  rw [if_pos hw]
  obtain ⟨v', w', hr, h2, h3, h4⟩ := run_append_items o.type base v n xs hown B m c news hl hB hnews h1 h63 hbase
  unfold Oper.wp execOp
  simp only [ho, resolve, invoke, builtin, Sem.run_bind, Sem.run_pure, Result.andThen_ok, List.map_toArray, List.map_cons, List.map_nil, hs, hx, hr]
  exact h v' w' h2 h3 h4
theorem wpList_append_items {w : World} {ops : Array Oper} {rest : List Oper} {o : Oper} {a : Act} {Q : Exit → Act → World → Prop} (hgd : o.guard = none) (s x : Operand)
    (ho : o.op = .call { callee := .builtin .append, args := #[s, x], argTypes := #[27, 27] })
    (base : Nat) (v : Value) (n : Nat) (xs : List Value) (hs : a.eval s = v) (hown : w.ownsRow base 45 2 v n xs)
    (B : Option Addr) (m c : Nat) (news : List Value) (hx : a.eval x = .slice B m c) (hl : news.length = m * 2) (hB : B = none → m = 0 ∧ c = 0) (hnews : ∀ ad, B = some ad → ∀ j u, news[j]? = some u → w.cell? (ad.add j) = some u) (h1 : ∀ u ∈ news, u.oneCell' = true)
    (h63 : n + m ≤ 4194304) (hbase : base ≤ w.heap.size)
    (h : ∀ v' w', w'.ownsRow base 45 2 v' (n + m) (xs ++ news) → w.grownBy w' v.ownBlock → (v'.ownBlock = v.ownBlock ∨ v'.ownBlock = some w.heap.size) → wpList Try.prog ops Q rest (a.put o.dst v') w') :
    wpList Try.prog ops Q (o :: rest) a w := by
  refine wpList_plain hgd fun K hK => ?_
  obtain ⟨v', w', hr, h2, h3, h4⟩ := run_append_items o.type base v n xs hown B m c news hl hB hnews h1 h63 hbase
  unfold Oper.wp execOp
  simp only [ho, resolve, invoke, builtin, Sem.run_bind, Sem.run_pure, Result.andThen_ok, List.map_toArray, List.map_cons, List.map_nil, hs, hx, hr]
  exact hK _ _ (h v' w' h2 h3 h4)
theorem item_cells {w : World} {g : Nat} {b : Bool} {v : Value} (h0 : w.cell? ⟨g, 0, none⟩ = some (.bool b)) (h1 : w.cell? ⟨g, 1, none⟩ = some v) : ∀ ad, some (⟨g, 0, none⟩ : Addr) = some ad → ∀ j u, [Value.bool b, v][j]? = some u → w.cell? (ad.add j) = some u := by
  intro ad e j u hj
  cases e
  rw [add_plain']
  match j with
  | 0 => simp at hj; subst hj; exact h0
  | 1 => simp at hj; subst hj; exact h1
  | j + 2 => simp at hj
end Go.Proofs.Ythieemfcmehdiaa
