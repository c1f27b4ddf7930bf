/- Last.lean inside the wide fence (a region that holds a call of yield): loads taken first under a condition S that holds behind every operation but a last one L (a store that turns the very cell that the loads read; L waits for them). -/
import Derived.OrdersHeld
import Derived.OrdersIn
import Derived.Test.YthieemfcmehdiaaLast
import Derived.Deep.RegionHeld
namespace Go.Proofs.Ythieemfcmehdiaa
open Go
section
variable {P : Program} {ops : Array Oper} {Q : Exit → Act → World → Prop} {md : Region.Mode} {S : World → Prop} {L : Nat}
variable {n : Nat}
theorem yields_in {i : Nat} {o : Oper} {v : Value} {a : Act} (hi : ops[i]? = some o) (hy : YieldsIf P ops S o v a) {K : Act → World → Prop} {w : World} (hS : S w) (h : K (a.put o.dst v) w) : wpOpIn Fence.wide n P ops Q i K a w := by
  unfold wpOpIn
  simp only [hi]
  rcases hy with ⟨hw, hv⟩ | ⟨hw, rfl⟩
  · simp only [hw, if_true, Oper.wpIn, show Fence.wide.round = none from rfl, Oper.semAt_none, hv w hS, Oper.uponIn]; exact ⟨fun _ _ => trivial, h⟩
  · simp only [hw, Bool.false_eq_true, if_false]; exact ⟨fun _ _ => trivial, h⟩
theorem put_in {j : Nat} {oi oj : Oper} {v : Value} (hj : ops[j]? = some oj) (hap : oi.apart ops oj = true) (hsi : ∀ cs b, oi.op ≠ .select cs b) (hsj : ∀ cs b, oj.op ≠ .select cs b)
    (hQ : ∀ c a w, Q (.panic c) (a.put oi.dst v) w → Q (.panic c) a w) {K : Act → World → Prop} {a : Act} {w : World} (hy : YieldsIf P ops S oi v a) (h : wpOpIn Fence.wide n P ops Q j K (a.put oi.dst v) w) :
    wpOpIn Fence.wide n P ops Q j (fun a' w' => YieldsIf P ops S oi v a' ∧ K (a'.put oi.dst v) w') a w := by
  obtain ⟨h1, h2, h3⟩ := Oper.apart_spec hap
  have stay : ∀ b : Act, YieldsIf P ops S oi v b → ∀ u, YieldsIf P ops S oi v (b.put oj.dst u) := fun b hb u => hb.of_same (execOp_put oi hsi b oj.dst u h3) (wanted_put oi b oj.dst u h3)
  unfold wpOpIn at *
  simp only [hj] at *
  rw [wanted_put oj a oi.dst v h1] at h
  split
  · rename_i hw
    simp only [hw, if_true] at h
    unfold Oper.wpIn at *
    refine ⟨fun _ _ => trivial, ?_⟩
    have h := h.2
    rw [show Fence.wide.round = none from rfl, Oper.semAt_none, execOp_put oj hsj a oi.dst v h1] at h
    rw [show Fence.wide.round = none from rfl, Oper.semAt_none]
    generalize (execOp a.eval oj).run P w = r at *
    cases r with
    | ok x w' =>
      cases x <;> simp only [Oper.uponIn] at h ⊢
      case value u => exact ⟨stay a hy u, by rw [← Act.put_comm a v u h2]; exact h⟩
      case skip => exact ⟨stay a hy _, by rw [← Act.put_comm a v undef h2]; exact h⟩
      case defer d => exact ⟨stay { a with defers := d :: a.defers } (hy.of_same rfl rfl) _, by rw [← Act.put_comm _ v undef h2, ← Act.put_defers]; exact h⟩
      case enter f args =>
        refine ⟨h.1, CallsIn.mono h.2 fun e w'' he => ?_⟩
        cases e with
        | returned u => exact ⟨stay a hy u, by rw [← Act.put_comm a v u h2]; exact he⟩
        | panicked c => exact hQ _ _ _ he
        | outgrown => exact he
      case row row args => exact ⟨h.1, RowsIn.mono h.2 fun u w'' he => ⟨stay a hy u, by rw [← Act.put_comm a v u h2]; exact he⟩⟩
      case round l f tmps assign body =>
        refine ⟨h.1, RoundIn.mono h.2 fun e w'' he => ?_⟩
        cases e with
        | returned u => exact ⟨stay a hy u, by rw [← Act.put_comm a v u h2]; exact he⟩
        | panicked c => exact hQ _ _ _ he
        | outgrown => exact he
    | halt x w' =>
      cases x <;> simp only [Oper.uponIn] at h ⊢
      case panic u => exact hQ _ _ _ h
  · rename_i hw
    simp only [hw] at h
    exact ⟨fun _ _ => trivial, stay a hy _, by rw [← Act.put_comm a v undef h2]; exact h.2⟩
/-- whatever order is picked from here on, S behind every operation but L -/
def wpAnyLI (n : Nat) (P : Program) (md : Region.Mode) (ops : Array Oper) (Q : Exit → Act → World → Prop) (S : World → Prop) (L : Nat) : Nat → Array Bool → Act → World → Prop
  | 0, listed, a, w => Region.ready md ops listed = [] ∧ Q .normal a w
  | fuel + 1, listed, a, w =>
    (Region.ready md ops listed = [] → Q .normal a w) ∧
    ∀ i ∈ Region.ready md ops listed, wpOpIn Fence.wide n P ops Q i (fun a' w' => (i < L → S w') ∧ wpAnyLI n P md ops Q S L fuel (listed.setIfInBounds i true) a' w') a w
theorem any_of_lastI : ∀ (fuel : Nat) (listed : Array Bool) (a : Act) (w : World), wpAnyLI n P md ops Q S L fuel listed a w → wpAnyIn Fence.wide n P md ops Q fuel listed a w
  | 0, _, _, _, h => h
  | fuel + 1, _, _, _, h => ⟨h.1, fun i hi => wpOpIn_mono (fun a' w' h' => any_of_lastI fuel _ a' w' h'.2) (h.2 i hi)⟩
/-- whatever is listed, what it waits for is listed -/
def Shut (md : Region.Mode) (ops : Array Oper) (listed : Array Bool) : Prop := ∀ j o, ops[j]? = some o → listed.getD j false = true → ∀ e ∈ o.after, Region.binds md e = true → listed.getD e.on false = true
theorem Shut.next {listed : Array Bool} {j : Nat} (h : Shut md ops listed) (hj : j ∈ Region.ready md ops listed) : Shut md ops (listed.setIfInBounds j true) := by
  intro k o hk hl e he hb
  rcases Nat.decEq j k with hjk | hjk
  · rw [getD_set_ne false hjk] at hl
    exact getD_set_true (h k o hk hl e he hb)
  · subst hjk
    obtain ⟨_, o', ho', hall⟩ := mem_ready.1 hj
    rw [hk] at ho'
    cases ho'
    exact getD_set_true (hall e he hb)
/-- L waits for i, by others -/
inductive Path (md : Region.Mode) (ops : Array Oper) (L : Nat) : Nat → Prop
  | one {i : Nat} : Waits md ops L i → Path md ops L i
  | more {i m : Nat} : Waits md ops m i → Path md ops L m → Path md ops L i
theorem Path.bars {listed : Array Bool} (hs : Shut md ops listed) {i : Nat} (hp : Path md ops L i) : listed.getD i false = false → L ∉ Region.ready md ops listed := by
  induction hp with
  | one hw =>
    obtain ⟨o, ho, e, he, hb, rfl⟩ := hw
    intro h0 hL
    obtain ⟨_, o', ho', hall⟩ := mem_ready.1 hL
    rw [ho] at ho'
    cases ho'
    rw [hall e he hb] at h0
    cases h0
  | more hw _ ih =>
    obtain ⟨o, ho, e, he, hb, rfl⟩ := hw
    intro h0
    refine ih ?_
    rename_i m _
    cases hm : listed.getD m false
    · rfl
    · rw [hs m o ho hm e he hb] at h0; cases h0
theorem unlisted {listed : Array Bool} {i : Nat} (h : i ∈ Region.ready md ops listed) : listed.getD i false = false := by
  have h0 := (mem_ready.1 h).1
  rcases Nat.lt_or_ge i listed.size with h' | h'
  · simp [h'] at h0 ⊢; exact h0
  · simp [Array.getElem?_eq_none h'] at h0
def shutB (md : Region.Mode) (ops : Array Oper) (listed : Array Bool) : Bool :=
  (List.range ops.size).all fun j => !(listed.getD j false) || (match ops[j]? with | some o => o.after.all (fun e => !(Region.binds md e) || listed.getD e.on false) | none => true)
theorem shut_of {listed : Array Bool} (h : shutB md ops listed = true) : Shut md ops listed := by
  intro j o hj hl e he hb
  unfold shutB at h
  rw [List.all_eq_true] at h
  have := h j (by simpa using (Array.getElem?_eq_some_iff.1 hj).1)
  rw [hl, hj] at this
  simp only [Bool.not_true, Bool.false_or] at this
  rw [Array.all_eq_true] at this
  obtain ⟨k, hk, rfl⟩ := Array.mem_iff_getElem.1 he
  have := this k hk
  rw [hb] at this
  simpa using this
def pathB (md : Region.Mode) (ops : Array Oper) (L : Nat) : List Nat → Nat → Bool
  | [], i => waitsB md ops L i
  | m :: p, i => waitsB md ops m i && pathB md ops L p m
theorem path_of : ∀ {p : List Nat} {i : Nat}, pathB md ops L p i = true → Path md ops L i
  | [], _, h => .one (waits_of h)
  | m :: p, i, h => by
    unfold pathB at h
    rw [Bool.and_eq_true] at h
    exact .more (waits_of h.1) (path_of h.2)
def tailsB (md : Region.Mode) (ops : Array Oper) (L : Nat) (p : List Nat) (i : Nat) : Bool := (List.range (ops.size - L)).all fun d => pathB md ops (L + d) (p ++ (List.range d).map (L + ·)) i
theorem tails_of {p : List Nat} {i : Nat} (h : tailsB md ops L p i = true) : ∀ j, L ≤ j → j < ops.size → Path md ops j i := by
  intro j h1 h2
  unfold tailsB at h
  rw [List.all_eq_true] at h
  have := h (j - L) (by rw [List.mem_range]; omega)
  rw [show L + (j - L) = j by omega] at this
  exact path_of this
theorem first_lastI {i : Nat} {oi : Oper} {v : Value} (hi : ops[i]? = some oi) (hsel : ∀ (j : Nat) (o : Oper) cs b, ops[j]? = some o → o.op ≠ .select cs b)
    (hQ : ∀ c a w, Q (.panic c) (a.put oi.dst v) w → Q (.panic c) a w) (hw : ∀ j, L ≤ j → j < ops.size → Path md ops j i) :
    ∀ (fuel : Nat) (listed : Array Bool) (a : Act) (w : World),
      (∀ j oj, ops[j]? = some oj → j ≠ i → listed.getD j true = false → (∀ e ∈ oj.after, Region.binds md e = true → e.on ≠ i) → oi.apart ops oj = true) →
      i ∈ Region.ready md ops listed → Shut md ops listed → YieldsIf P ops S oi v a → S w →
      wpAnyLI n P md ops Q S L fuel (listed.setIfInBounds i true) (a.put oi.dst v) w → wpAnyLI n P md ops Q S L (fuel + 1) listed a w := by
  intro fuel
  induction fuel with
  | zero =>
    intro listed a w _ hr _ hy hS H
    refine ⟨fun h => (by rw [h] at hr; cases hr), fun j hj => ?_⟩
    rcases Nat.decEq j i with hji | hji
    · have := ready_mono hj hji
      rw [H.1] at this
      cases this
    · subst hji; exact yields_in hi hy hS ⟨fun _ => hS, H⟩
  | succ fuel ih =>
    intro listed a w hfree hr hsh hy hS H
    refine ⟨fun h => (by rw [h] at hr; cases hr), fun j hj => ?_⟩
    rcases Nat.decEq j i with hji | hji
    · obtain ⟨hjun, oj, hoj, hall⟩ := mem_ready.1 hj
      have hnot : ∀ e ∈ oj.after, Region.binds md e = true → e.on ≠ i := fun e he hb heq => not_last ⟨oj, hoj, e, he, hb, heq⟩ hr hj rfl
      have hjL : j < L := Nat.lt_of_not_le fun e => (hw j e (Array.getElem?_eq_some_iff.1 hoj).1).bars hsh (unlisted hr) hj
      have h2 := put_in hoj (hfree j oj hoj hji hjun hnot) (fun cs b => hsel i oi cs b hi) (fun cs b => hsel j oj cs b hoj) hQ hy (H.2 j (ready_mono hj hji))
      refine wpOpIn_mono (fun a' w' h3 => ⟨h3.2.1, ih (listed.setIfInBounds j true) a' w' (fun k ok hk hki hun hno => hfree k ok hk hki ?_ hno) (ready_mono hr (Ne.symm hji)) (hsh.next hj) h3.1 (h3.2.1 hjL) ?_⟩) h2
      · rcases Nat.decEq j k with hjk | hjk
        · rw [getD_set_ne true hjk] at hun; exact hun
        · subst hjk; exact hjun
      · rw [Array.setIfInBounds_comm _ _ hji]
        exact h3.2.2
    · subst hji; exact yields_in hi hy hS ⟨fun _ => hS, H⟩
theorem take_lastI {i : Nat} {oi : Oper} {v : Value} {fuel : Nat} {listed : Array Bool} {a : Act} {w : World} (hi : ops[i]? = some oi)
    (hs : Region.noSelect ops = true) (hf : Region.free md ops listed i = true) (hr : (Region.ready md ops listed).contains i = true) (hsh : shutB md ops listed = true) {p : List Nat} (hw : tailsB md ops L p i = true)
    (hQ : ∀ c a w, Q (.panic c) (a.put oi.dst v) w → Q (.panic c) a w) (hy : YieldsIf P ops S oi v a) (hS : S w)
    (h : wpAnyLI n P md ops Q S L fuel (listed.setIfInBounds i true) (a.put oi.dst v) w) : wpAnyLI n P md ops Q S L (fuel + 1) listed a w :=
  first_lastI hi (Region.noSelect_spec hs) hQ (tails_of hw) fuel listed a w (Region.free_spec hi hf) (by simpa using hr) (shut_of hsh) hy hS h
/-- the one that may come up -/
theorem one_lastI {i : Nat} {fuel : Nat} {listed : Array Bool} {a : Act} {w : World} (hr : Region.ready md ops listed = [i])
    (h : wpOpIn Fence.wide n P ops Q i (fun a' w' => (i < L → S w') ∧ wpAnyLI n P md ops Q S L fuel (listed.setIfInBounds i true) a' w') a w) : wpAnyLI n P md ops Q S L (fuel + 1) listed a w :=
  ⟨fun h0 => (by rw [hr] at h0; cases h0), fun j hj => by rw [hr] at hj; obtain rfl := List.mem_singleton.1 hj; exact h⟩
theorem done_lastI {listed : Array Bool} {a : Act} {w : World} (hr : Region.ready md ops listed = []) (h : Q .normal a w) : ∀ fuel, wpAnyLI n P md ops Q S L fuel listed a w
  | 0 => ⟨hr, h⟩
  | _ + 1 => ⟨fun _ => h, by rw [hr]; simp⟩
theorem region_lastI (L : Nat) (S : World → Prop) {id : Nat} {a : Act} {w : World} (hm : P.follows .mixedOrders = true)
    (h : wpAnyLI n P .any ops Q S L ops.size (Array.replicate ops.size false) a w.drew) : (Code.region id ops true).wpIn Fence.wide n P Q a w :=
  wpIn_region_any hm (any_of_lastI _ _ _ _ h)
end
end Go.Proofs.Ythieemfcmehdiaa
