/- What every law of this seat shares: reading slices of bytes, carrying facts over new memory, the step from a walk to the row. -/
import Derived.Test.YtgkniekggcgdcaaDoorWalks
import Derived.ProofKit
import Derived.OpenShut
import Derived.Deep.DeepHandedRow
import Derived.Lib.LaidTab
import Derived.Laws.AppendOwnNone
namespace Go.Proofs.YtgkniekggcgdcaaDoor
open Go.RowKit Crc
open Go.ChangeShapes Go.WideShapes Go.ChangeAt

theorem cell_below {w w' : World} (hb : Below w.heap.size w w') {a : Addr} {v : Value} (h : w.cell? a = some v) : w'.cell? a = some v :=
  (hb.cell (World.block_lt_of_cell? w a h)).trans h
theorem Tab.below {w w' : World} (h : Tab w) (hb : Below w.heap.size w w') : Tab w' := fun i hi => cell_below hb (h i hi)
theorem Bytes.below {w w' : World} {A : Option Addr} {l : List UInt8} (h : Bytes w A l) (hb : Below w.heap.size w w') : Bytes w' A l :=
  ⟨h.1, fun i hi => by obtain ⟨ad, e, hc⟩ := h.2 i hi; exact ⟨ad, e, cell_below hb hc⟩⟩
theorem Parts.below {w w' : World} {A : Option Addr} {l : List (List UInt8)} (h : Parts w A l) (hb : Below w.heap.size w w') : Parts w' A l :=
  ⟨h.1, fun i hi => by obtain ⟨ad, B, c, e, hc, hB⟩ := h.2 i hi; exact ⟨ad, B, c, e, cell_below hb hc, hB.below hb⟩⟩
theorem below_tr {B : Nat} {w w1 w2 : World} (h : Below B w w1) (hB : B ≤ w1.heap.size) (k : Below w1.heap.size w1 w2) : Below B w w2 :=
  h.trans ⟨k.os, k.tape, k.output, k.size, fun i hi => k.block i (Nat.lt_of_lt_of_le hi hB)⟩
theorem below_new (w : World) (o : Obj) : Below w.heap.size w (w.alloc o) := (Below.refl _ _).alloc (Nat.le_refl _) _

theorem add_plain' (g j : Nat) : (⟨g, 0, none⟩ : Addr).add j = ⟨g, j, none⟩ := by unfold Addr.add; split <;> simp_all
theorem cell_new (w : World) (cs : Array Value) (t : TypeId) (fr : Nat × Nat) (j : Nat) : (w.alloc (.cells cs t fr)).cell? ⟨w.heap.size, j, none⟩ = cs[j]? := by
  have : (w.alloc (.cells cs t fr)).heap[w.heap.size]? = some (.cells cs t fr) := by
    show (w.heap.push _)[w.heap.size]? = _
    simp
  exact cell_of_row _ _ _ _ _ _ this
/-- a new block of bytes -/
theorem Bytes.new {w : World} {cs : Array Value} {t : TypeId} {fr : Nat × Nat} {l : List UInt8} {b : Nat} (hb : b = w.heap.size) (h : cs.toList = l.map fun c => Value.int .u8 (c.toNat : Int)) (hl : l.length ≤ 9223372036854775807) :
    Bytes (w.alloc (.cells cs t fr)) (some ⟨b, 0, none⟩) l := by
  subst hb
  refine ⟨hl, fun i hi => ⟨_, rfl, ?_⟩⟩
  rw [add_plain', cell_new, ← Array.getElem?_toList, h]
  simp [hi]
/-- a new block of parts -/
theorem Parts.new1 {w : World} {t : TypeId} {b : Nat} (hb : b = w.heap.size) {A : Option Addr} {c : Nat} {l : List UInt8} (h : Bytes w A l) : Parts (w.alloc (.cells #[.slice A l.length c] t)) (some ⟨b, 0, none⟩) [l] := by
  subst hb
  refine ⟨by simp, fun i hi => ?_⟩
  obtain rfl : i = 0 := by simpa using hi
  exact ⟨_, A, c, rfl, by rw [add_plain', cell_new]; rfl, h.below (below_new _ _)⟩
theorem Parts.new2 {w : World} {t : TypeId} {b : Nat} (hb : b = w.heap.size) {A A' : Option Addr} {c c' : Nat} {l l' : List UInt8} (h : Bytes w A l) (h' : Bytes w A' l') :
    Parts (w.alloc (.cells #[.slice A l.length c, .slice A' l'.length c'] t)) (some ⟨b, 0, none⟩) [l, l'] := by
  subst hb
  refine ⟨by simp, fun i hi => ?_⟩
  have : i = 0 ∨ i = 1 := by simp at hi; omega
  rcases this with rfl | rfl
  · exact ⟨_, A, c, rfl, by rw [add_plain', cell_new]; rfl, h.below (below_new _ _)⟩
  · exact ⟨_, A', c', rfl, by rw [add_plain', cell_new]; rfl, h'.below (below_new _ _)⟩
theorem Parts.new3 {w : World} {t : TypeId} {b : Nat} (hb : b = w.heap.size) {A A' A'' : Option Addr} {c c' c'' : Nat} {l l' l'' : List UInt8} (h : Bytes w A l) (h' : Bytes w A' l') (h'' : Bytes w A'' l'') :
    Parts (w.alloc (.cells #[.slice A l.length c, .slice A' l'.length c', .slice A'' l''.length c''] t)) (some ⟨b, 0, none⟩) [l, l', l''] := by
  subst hb
  refine ⟨by simp, fun i hi => ?_⟩
  have : i = 0 ∨ i = 1 ∨ i = 2 := by simp at hi; omega
  rcases this with rfl | rfl | rfl
  · exact ⟨_, A, c, rfl, by rw [add_plain', cell_new]; rfl, h.below (below_new _ _)⟩
  · exact ⟨_, A', c', rfl, by rw [add_plain', cell_new]; rfl, h'.below (below_new _ _)⟩
  · exact ⟨_, A'', c'', rfl, by rw [add_plain', cell_new]; rfl, h''.below (below_new _ _)⟩
theorem Parts.none (w : World) : Parts w none [] := ⟨by simp, fun i hi => by simp at hi⟩

/-! ### append of bytes onto a row of the call's own -/
def bv (l : List UInt8) : List Value := l.map fun c => Value.int .u8 (c.toNat : Int)
theorem bv_append (a b : List UInt8) : bv (a ++ b) = bv a ++ bv b := by simp [bv]
theorem bv_one (l : List UInt8) : ∀ u ∈ bv l, u.oneCell' = true := by
  intro u hu; simp only [bv, List.mem_map] at hu; obtain ⟨c, _, rfl⟩ := hu; rfl
theorem own_bytes {w : World} {base n : Nat} {e : TypeId} {v : Value} {l : List UInt8} (h : w.ownsRow base e 1 v n (bv l)) (hn : n ≤ 9223372036854775807) : ∃ A c, v = .slice A l.length c ∧ Bytes w A l := by
  have hl : l.length = n := by have := h.1; simp [bv] at this; exact this
  rcases h.2 with ⟨rfl, rfl⟩ | ⟨g, cap, cur, rfl, _, hg, _, _, _, ht⟩
  · obtain rfl := List.eq_nil_of_length_eq_zero hl
    exact ⟨.none, 0, rfl, by simp, fun i hi => by simp at hi⟩
  · refine ⟨some ⟨g, 0, .none⟩, cap, by rw [hl], by omega, fun i hi => ⟨_, rfl, ?_⟩⟩
    exact h.cells (g := g) rfl i _ (by simp [bv, hi])
/-- the value owns these bytes (a plain def: the walk does not look into it) -/
def Row (w : World) (B : Nat) (v : Value) (l : List UInt8) : Prop := w.ownsRow B 5 1 v l.length (bv l)
theorem info5 : (Tryd.prog.info? 5).map (fun i => (i.zero, i.size, i.bytes)) = some (some (.int .u8 0), 1, 1) := by kernel_rfl
theorem wpList_append_bytes {w : World} {ops : Array Oper} {rest : List Oper} {o : Oper} {a : Act} {Q : Exit → Act → World → Prop} (hgd : o.guard = .none) (s x : Operand)
    (ho : o.op = .call { callee := .builtin .append, args := #[s, x], argTypes := #[22, 22] }) (base : Nat)
    (v : Value) (xs : List UInt8) (hs : a.eval s = v) (hown : Row w base v xs)
    (A : Option Addr) (l : List UInt8) (c : Nat) (hx : a.eval x = .slice A l.length c) (hB : Bytes w A l) (hnil : A = .none → c = 0) (hb : xs.length + l.length ≤ 140737488355328) (hbase : base ≤ w.heap.size)
    (h : ∀ v' w', Row w' base v' (xs ++ l) → w.grownBy w' v.ownBlock → wpList Tryd.prog ops Q rest (a.put o.dst v') w') : wpList Tryd.prog ops Q (o :: rest) a w := by
  obtain ⟨i0, hi, hz0, hz1, hz2⟩ := info_parts info5
  cases A with
  | none =>
    have hl : l = [] := by
      cases l with
      | nil => rfl
      | cons y l => obtain ⟨ad, e, _⟩ := hB.2 0 (by simp); cases e
    subst hl
    obtain rfl := hnil rfl
    refine wpList_append_own_none hgd s x 22 ho base 5 i0 1 Tryd.underlying22 hi v _ _ hs hown hx ?_
    exact h v w (by simpa using hown) ⟨rfl, rfl, rfl, Nat.le_refl _, fun _ _ _ => rfl⟩
  | some ad =>
    refine wpList_append_own _ hgd s x 22 ho base 5 i0 (.int .u8 0) 1 1 Tryd.underlying22 hi hz0 hz1 hz2 rfl (by decide) v xs.length (bv xs) hs hown ad l.length c (bv l) hx (by simp [bv]) ?_ (bv_one l) (by unfold maxLen; omega) (by omega) hbase ?_
    · intro j u hj
      simp only [bv, List.getElem?_map, Option.map_eq_some_iff] at hj
      obtain ⟨y, hy, rfl⟩ := hj
      obtain ⟨hjl, rfl⟩ := List.getElem?_eq_some_iff.1 hy
      obtain ⟨ad', e, hc⟩ := hB.2 j hjl
      cases e
      exact hc
    · intro v' w' h1 h2 _
      exact h v' w' (by unfold Row; simpa [bv] using h1) h2
theorem row_bytes {w : World} {B : Nat} {v : Value} {l : List UInt8} (h : Row w B v l) (hn : l.length ≤ 9223372036854775807) : ∃ A c, v = .slice A l.length c ∧ Bytes w A l := own_bytes h hn
theorem row_grown {B : Nat} {w w1 w2 : World} {v : Value} {l : List UInt8} (h : Below B w w1) (hB : B ≤ w1.heap.size) (hown : Row w1 B v l) (hg : w1.grownBy w2 v.ownBlock) : Below B w w2 :=
  h.grown hg hB fun k hk => (World.ownsRow.lt hown k hk).1
/-- an empty row that is no nil slice -/
theorem own_empty (w : World) (base : Nat) (hb : base ≤ w.heap.size) : Row (w.alloc (.cells #[] 5)) base (.slice (some ⟨w.heap.size, 0, .none⟩) 0 0) [] :=
  World.ownsRow_made w #[] 0 hb (by decide) rfl

/-! ### opening the arguments -/
theorem byte_of_wf {n : Int} (h : (Lit.int .u8 n).wf = true) : ((UInt8.ofNat n.toNat).toNat : Int) = n := by
  have hx : 0 ≤ n ∧ n ≤ 255 := by simpa [Lit.wf, IntKind.min, IntKind.max, IntKind.signed, IntKind.bits] using h
  rw [UInt8.toNat_ofNat']; omega
section
variable {H : Type} {enc : TypeId × Value → H}
theorem open_bytes {w : World} {b0 : Nat} {v : Value} {d : DataW H} {ps : List MemPlace} (hval : Value.okWide Tryd.prog w .any b0 22 v) (hd : DataW.Trod enc Tryd.prog w 0 (fun _ => true) true 22 v d ps) :
    ∃ A l c, v = .slice A (List.length l) c ∧ Bytes w A l ∧ (A = .none → c = 0) := by
  obtain ⟨A, len, cap, rfl⟩ := okWide_slice Tryd.underlying22 hval
  obtain ⟨fuel, hf⟩ := hd
  rcases open_ints Tryd.underlying22 Tryd.underlying5 (by kernel_rfl) hf with ⟨hcs, _⟩ | ⟨x, n, c, zs, hcs, _, hl, hm, hz, _, hcell, hwz⟩
  · simp [Value.cells] at hcs
    obtain ⟨rfl, rfl, rfl⟩ := hcs
    exact ⟨.none, [], 0, rfl, ⟨by simp, fun i hi => by simp at hi⟩, fun _ => rfl⟩
  · simp [Value.cells] at hcs
    obtain ⟨rfl, rfl, rfl⟩ := hcs
    simp only [if_true] at hz
    refine ⟨some x, (zs.take len).map fun z => UInt8.ofNat z.toNat, cap, by simp; omega, ⟨by simp; unfold maxLen at hm; omega, fun i hi => ⟨x, rfl, ?_⟩⟩, fun h => by cases h⟩
    simp only [List.length_map, List.length_take] at hi
    rw [hcell i (by omega), List.getElem_map, List.getElem_take, byte_of_wf (hwz _ (List.getElem_mem _)), List.getD_eq_getElem?_getD, List.getElem?_eq_getElem (by omega), Option.getD_some]

/-- the arguments read again behind the call -/
theorem args_stay {w w' : World} {P : Program} (hl : laidOutB P = true) (hb : Below w.heap.size w w') : ∀ (ts : List TypeId) (vs : List Value) (ds : List (DataW H)) (ps : List MemPlace),
    (ts.all fun t => P.readableRec t && decide (t < P.types.size)) = true → DataW.TrodAll enc P w 0 (fun _ => true) true ts vs ds ps → DataW.TrodAll enc P w' 0 (fun b => decide (b < w.heap.size)) true ts vs ds ps := by
  intro ts
  induction ts with
  | nil => intro vs ds ps _ h; obtain ⟨rfl, rfl, rfl⟩ := trodAll_nil h; exact trodAll_mk0
  | cons t ts ih =>
    intro vs ds ps ht h
    obtain ⟨v, vs', d, ds', p, q, rfl, rfl, rfl, h0, r0⟩ := trodAll_cons h
    simp only [List.all_cons, Bool.and_eq_true, decide_eq_true_eq] at ht
    have lt0 : ∀ x ∈ p, x.block < w.heap.size := by obtain ⟨m, hm⟩ := h0; exact DataW.trod_lt m _ _ _ hm
    exact trodAll_cons_mk (Below.trod hl ht.1.1 ht.1.2 h0 hb lt0) (ih _ _ _ ht.2 r0)
end

/-! ### the table -/
theorem own : ownKnob Tryd.prog.godebug = .none := by kernel_rfl
theorem laidOut : laidOutB Tryd.prog = true := by kernel_rfl
theorem tab_of {w : World} (h : Lib.TabIs Tryd.prog w "portmanteau/sum.nibbles" .u32 [0, 274646895, 549293790, 820201905, 1098587580, 1361435347, 1640403810, 1905808397, 2197175160, 2460548119, 2722870694, 2987750089, 3280807620, 3553878443, 3811616794, 4084100981]) : Tab w := by
  intro i hi
  have h1 := h.cell (show Tryd.prog.globalNamed "portmanteau/sum.nibbles" = some 0 by kernel_rfl) i (by simpa using hi)
  rw [h1]
  congr 1
  congr 1
  have : i = 0 ∨ i = 1 ∨ i = 2 ∨ i = 3 ∨ i = 4 ∨ i = 5 ∨ i = 6 ∨ i = 7 ∨ i = 8 ∨ i = 9 ∨ i = 10 ∨ i = 11 ∨ i = 12 ∨ i = 13 ∨ i = 14 ∨ i = 15 := by omega
  rcases this with rfl | rfl | rfl | rfl | rfl | rfl | rfl | rfl | rfl | rfl | rfl | rfl | rfl | rfl | rfl | rfl <;> decide +kernel
/-- A WORLD FOR THE WITNESS: the settled one, the table (block 0) holding what its initialiser lays. -/
noncomputable def laidWorld (os : Os) : World :=
  { World.holding Tryd.prog os ⟨#[], #[], []⟩ with heap := (World.holding Tryd.prog os ⟨#[], #[], []⟩).heap.modify 0 fun
      | .cells _ t frozen => .cells #[.int .u32 0, .int .u32 274646895, .int .u32 549293790, .int .u32 820201905, .int .u32 1098587580, .int .u32 1361435347, .int .u32 1640403810, .int .u32 1905808397, .int .u32 2197175160, .int .u32 2460548119, .int .u32 2722870694, .int .u32 2987750089, .int .u32 3280807620, .int .u32 3553878443, .int .u32 3811616794, .int .u32 4084100981] t frozen
      | o => o }
end Go.Proofs.YtgkniekggcgdcaaDoor
