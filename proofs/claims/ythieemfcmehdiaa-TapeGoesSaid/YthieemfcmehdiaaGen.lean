/- Words on worlds that every walk of this seat uses: facts carried over new memory; what only draws; what touches named blocks alone; the arguments read again. -/
import Derived.Test.YthieemfcmehdiaaChecked
import Derived.WalkKit
import Derived.WalkSpells
import Derived.WalkLawsBesides
import Derived.ProofKit
import Derived.OpenShut
import Derived.Handy
import Derived.Deep.AppendLies
import Derived.Laws.AppendOwnNone
import Derived.Maps.AppendAt
namespace Go.Proofs.Ythieemfcmehdiaa
open Go.RowKit
open Go.ChangeShapes Go.WideShapes Go.ChangeAt

theorem hid {p : Prop} (h : p) : Hid p := h
theorem cell_below {w w' : World} (hb : Below w.heap.size w w') {a : Addr} {v : Value} (h : w.cell? a = some v) : w'.cell? a = some v :=
  (hb.cell (World.block_lt_of_cell? w a h)).trans h
theorem below_tr {B : Nat} {w w1 w2 : World} (h : Below B w w1) (hB : B ≤ w1.heap.size) (k : Below w1.heap.size w1 w2) : Below B w w2 :=
  h.trans ⟨k.os, k.tape, k.output, k.size, fun i hi => k.block i (Nat.lt_of_lt_of_le hi hB)⟩
theorem below_new (w : World) (o : Obj) : Below w.heap.size w (w.alloc o) := (Below.refl _ _).alloc (Nat.le_refl _) _
theorem below_trans {w w1 w2 : World} (h : Below w.heap.size w w1) (k : Below w1.heap.size w1 w2) : Below w.heap.size w w2 := below_tr h h.size k
theorem add_plain' (g j : Nat) : (⟨g, 0, none⟩ : Addr).add j = ⟨g, j, none⟩ := by unfold Addr.add; split <;> simp_all
theorem cell_new (w : World) (cs : Array Value) (t : TypeId) (fr : Nat × Nat) (j : Nat) : (w.alloc (.cells cs t fr)).cell? ⟨w.heap.size, j, none⟩ = cs[j]? := by
  have : (w.alloc (.cells cs t fr)).heap[w.heap.size]? = some (.cells cs t fr) := by
    show (w.heap.push _)[w.heap.size]? = _
    simp
  exact cell_of_row _ _ _ _ _ _ this
theorem block_new (w : World) (o : Obj) : (w.alloc o).heap[w.heap.size]? = some o := by
  show (w.heap.push _)[w.heap.size]? = _
  simp

theorem cell_one (w : World) (v : Value) (t : TypeId) : (w.alloc (.cells #[v] t)).cell? ⟨w.heap.size, 0, none⟩ = some v ∧ (w.alloc (.cells #[v] t)).frozen? ⟨w.heap.size, 0, none⟩ = false :=
  ⟨by rw [cell_new]; rfl, free_of_one (block_new w _)⟩
theorem cell_past {w : World} {a : Addr} {v : Value} (o : Obj) (h : w.cell? a = some v) : (w.alloc o).cell? a = some v := cell_below (below_new w o) h
theorem frozen_past {w : World} {a : Addr} {v : Value} (o : Obj) (h : w.cell? a = some v) (hf : w.frozen? a = false) : (w.alloc o).frozen? a = false :=
  ((below_new w o).frozen (World.block_lt_of_cell? w a h)).trans hf

/-- the same world but for draws -/
structure Calm (w w' : World) : Prop where
  heap : w'.heap = w.heap
  os : w'.os = w.os
  tape : w'.tape = w.tape
  output : w'.output = w.output
theorem Calm.refl (w : World) : Calm w w := ⟨rfl, rfl, rfl, rfl⟩
theorem Calm.trans {a b c : World} (h : Calm a b) (k : Calm b c) : Calm a c := ⟨k.heap.trans h.heap, k.os.trans h.os, k.tape.trans h.tape, k.output.trans h.output⟩
theorem Calm.drew {a b : World} (h : Calm a b) : Calm a b.drew := ⟨h.heap, h.os, h.tape, h.output⟩
theorem Calm.below {a b : World} (h : Calm a b) (B : Nat) : Below B a b := ⟨h.os, h.tape, h.output, by rw [h.heap]; exact Nat.le_refl _, fun k _ => by rw [h.heap]⟩
theorem Calm.cell {a b : World} (h : Calm a b) (p : Addr) : b.cell? p = a.cell? p := World.cell?_of_block (by rw [h.heap])
theorem Calm.frozen {a b : World} (h : Calm a b) (p : Addr) : b.frozen? p = a.frozen? p := World.frozen?_of_block (by rw [h.heap])
theorem Calm.size {a b : World} (h : Calm a b) : b.heap.size = a.heap.size := by rw [h.heap]
theorem Calm.of_drewN (w : World) (n : Nat) : Calm w (w.drewN n) := ⟨rfl, rfl, rfl, rfl⟩

/-- nothing has turned but the named blocks, and new ones -/
structure Touch (S : List Nat) (w w' : World) : Prop where
  os : w'.os = w.os
  tape : w'.tape = w.tape
  output : w'.output = w.output
  size : w.heap.size ≤ w'.heap.size
  block : ∀ k, k < w.heap.size → k ∉ S → w'.heap[k]? = w.heap[k]?
theorem Touch.refl (S : List Nat) (w : World) : Touch S w w := ⟨rfl, rfl, rfl, Nat.le_refl _, fun _ _ _ => rfl⟩
theorem Touch.trans {S S' : List Nat} {a b c : World} (h : Touch S a b) (k : Touch S' b c) (hS : ∀ x ∈ S', x ∈ S ∨ a.heap.size ≤ x) : Touch S a c :=
  ⟨k.os.trans h.os, k.tape.trans h.tape, k.output.trans h.output, Nat.le_trans h.size k.size, fun i hi hn =>
    (k.block i (Nat.lt_of_lt_of_le hi h.size) (fun hm => by rcases hS i hm with h1 | h1 <;> first | exact hn h1 | omega)).trans (h.block i hi hn)⟩
theorem Touch.mono {S S' : List Nat} {a b : World} (h : Touch S a b) (hS : ∀ x ∈ S, x ∈ S') : Touch S' a b :=
  ⟨h.os, h.tape, h.output, h.size, fun k hk hn => h.block k hk fun hm => hn (hS k hm)⟩
theorem Touch.of_below {a b : World} (h : Below a.heap.size a b) (S : List Nat) : Touch S a b := ⟨h.os, h.tape, h.output, h.size, fun k hk _ => h.block k hk⟩
theorem Touch.below {B : Nat} {S : List Nat} {w a b : World} (h : Below B w a) (hB : B ≤ a.heap.size) (k : Touch S a b) (hS : ∀ x ∈ S, B ≤ x) : Below B w b :=
  h.trans ⟨k.os, k.tape, k.output, k.size, fun i hi => k.block i (by omega) (fun hm => by have := hS i hm; omega)⟩
theorem Touch.setCell (w : World) (a : Addr) (u : Value) : Touch [a.block] w (w.setCell a u) :=
  ⟨rfl, rfl, rfl, by simp, fun k _ hn => Below.heap_setCell _ _ _ _ (by simpa using hn)⟩
theorem Touch.grown {w w' : World} {row : Option Nat} (h : w.grownBy w' row) : Touch row.toList w w' :=
  ⟨h.os, h.tape, h.output, h.size, fun k hk hn => h.block k hk (by intro e; apply hn; rw [← e]; simp)⟩
theorem Touch.drew {S : List Nat} {a b : World} (h : Touch S a b) : Touch S a b.drew := ⟨h.os, h.tape, h.output, h.size, h.block⟩
theorem Touch.calm {S : List Nat} {a b c : World} (h : Touch S a b) (k : Calm b c) : Touch S a c :=
  ⟨k.os.trans h.os, k.tape.trans h.tape, k.output.trans h.output, by rw [k.heap]; exact h.size, fun i hi hn => by rw [k.heap]; exact h.block i hi hn⟩
theorem own_kept {S : List Nat} {w w' : World} {base : Nat} {e : TypeId} {size n : Nat} {v : Value} {xs : List Value} (h : w.ownsRow base e size v n xs) (t : Touch S w w') (hne : ∀ g, v.ownBlock = some g → g ∉ S) : w'.ownsRow base e size v n xs := by
  refine ⟨h.1, ?_⟩
  rcases h.2 with hn | ⟨g, cap, cur, rfl, hb, hgg, rest⟩
  · exact .inl hn
  · exact .inr ⟨g, cap, cur, rfl, hb, by rw [t.block g (Array.getElem?_eq_some_iff.1 hgg).1 (hne g rfl)]; exact hgg, rest⟩
theorem own_calm {w w' : World} {base : Nat} {e : TypeId} {size n : Nat} {v : Value} {xs : List Value} (h : w.ownsRow base e size v n xs) (t : Calm w w') : w'.ownsRow base e size v n xs := by
  refine ⟨h.1, ?_⟩
  rcases h.2 with hn | ⟨g, cap, cur, rfl, hb, hgg, rest⟩
  · exact .inl hn
  · exact .inr ⟨g, cap, cur, rfl, hb, by rw [t.heap]; exact hgg, rest⟩
theorem own_mono {w : World} {base base' : Nat} {e : TypeId} {size n : Nat} {v : Value} {xs : List Value} (h : w.ownsRow base e size v n xs) (hb : base' ≤ base) : w.ownsRow base' e size v n xs := by
  refine ⟨h.1, ?_⟩
  rcases h.2 with hn | ⟨g, cap, cur, rfl, hg, rest⟩
  · exact .inl hn
  · exact .inr ⟨g, cap, cur, rfl, by omega, rest⟩
theorem own_block_lt {w : World} {base : Nat} {e : TypeId} {size n : Nat} {v : Value} {xs : List Value} (h : w.ownsRow base e size v n xs) {g : Nat} (hg : v.ownBlock = some g) : base ≤ g ∧ g < w.heap.size := h.lt g hg

section
variable {H : Type} {enc : TypeId × Value → H}
/-- the arguments read again behind the call -/
theorem args_stay {w w' : World} {P : Program} (hl : laidOutB P = true) (hb : Below w.heap.size w w') : ∀ (ts : List TypeId) (vs : List Value) (ds : List (DataW H)) (ps : List MemPlace),
    (ts.all fun t => P.readableRec t && decide (t < P.types.size)) = true → DataW.TrodAll enc P w 0 (fun _ => true) true ts vs ds ps → DataW.TrodAll enc P w' 0 (fun b => decide (b < w.heap.size)) true ts vs ds ps := by
  intro ts
  induction ts with
  | nil => intro vs ds ps _ h; obtain ⟨rfl, rfl, rfl⟩ := trodAll_nil h; exact trodAll_mk0
  | cons t ts ih =>
    intro vs ds ps ht h
    obtain ⟨v, vs', d, ds', p, q, rfl, rfl, rfl, h0, r0⟩ := trodAll_cons h
    simp only [List.all_cons, Bool.and_eq_true, decide_eq_true_eq] at ht
    have lt0 : ∀ x ∈ p, x.block < w.heap.size := by obtain ⟨m, hm⟩ := h0; exact DataW.trod_lt m _ _ _ hm
    exact trodAll_cons_mk (Below.trod hl ht.1.1 ht.1.2 h0 hb lt0) (ih _ _ _ ht.2 r0)
end
theorem own : ownKnob Try.prog.godebug = none := by kernel_rfl
theorem laidOut : laidOutB Try.prog = true := by kernel_rfl
theorem laid_none (w : World) : laidMetH Try.prog [] w := ⟨[], rfl, List.nodup_nil, fun _ _ h => by cases h⟩
theorem i64_bd {n : Int} (h : (Lit.int .i64 n).wf = true) : -9223372036854775808 ≤ n ∧ n ≤ 9223372036854775807 := by
  simpa [Lit.wf, IntKind.min, IntKind.max, IntKind.signed, IntKind.bits] using h
theorem u8_bd {n : Int} (h : (Lit.int .u8 n).wf = true) : 0 ≤ n ∧ n ≤ 255 := by
  simpa [Lit.wf, IntKind.min, IntKind.max, IntKind.signed, IntKind.bits] using h

/-- a slice that is read: value i of it -/
def Reads (w : World) (A : Option Addr) (l : List Value) : Prop :=
  l.length ≤ 9223372036854775807 ∧ ∀ i (h : i < l.length), ∃ ad, A = some ad ∧ w.cell? (ad.add i) = some l[i]
theorem Reads.below {w w' : World} {A : Option Addr} {l : List Value} (h : Reads w A l) (hb : Below w.heap.size w w') : Reads w' A l :=
  ⟨h.1, fun i hi => by obtain ⟨ad, e, hc⟩ := h.2 i hi; exact ⟨ad, e, cell_below hb hc⟩⟩
theorem Reads.calm {w w' : World} {A : Option Addr} {l : List Value} (h : Reads w A l) (hb : Calm w w') : Reads w' A l :=
  ⟨h.1, fun i hi => by obtain ⟨ad, e, hc⟩ := h.2 i hi; exact ⟨ad, e, (hb.cell _).trans hc⟩⟩
/-- a row of the call's own, read -/
theorem own_reads {w : World} {base n : Nat} {e : TypeId} {v : Value} {xs : List Value} (h : w.ownsRow base e 1 v n xs) (hn : n ≤ 9223372036854775807) : ∃ A c, v = .slice A xs.length c ∧ Reads w A xs := by
  have hl : xs.length = n := by have := h.1; simp at this; exact this
  rcases h.2 with ⟨rfl, rfl⟩ | ⟨g, cap, cur, rfl, _, hg, _, _, _, ht⟩
  · obtain rfl := List.eq_nil_of_length_eq_zero hl
    exact ⟨none, 0, rfl, by simp, fun i hi => by simp at hi⟩
  · refine ⟨some ⟨g, 0, none⟩, cap, by rw [hl], by omega, fun i hi => ⟨_, rfl, ?_⟩⟩
    exact h.cells (g := g) rfl i _ (by simp [hi])

/-- append(v, src...) of one-cell elements, v a row of the call's own -/
theorem wpList_append_reads {P : Program} {w : World} {ops : Array Oper} {rest : List Oper} {o : Oper} {a : Act} {Q : Exit → Act → World → Prop} (hgd : o.guard = none) (s x : Operand) (t e : TypeId) (z : Value) (bytes : Nat)
    (ho : o.op = .call { callee := .builtin .append, args := #[s, x], argTypes := #[t, t] }) (ht : P.underlying t = some (.slice e)) (hinfo : (P.info? e).map (fun i => (i.zero, i.size, i.bytes)) = some (some z, 1, bytes)) (hz : z.cells.size = 1)
    (base : Nat) (v : Value) (n : Nat) (xs : List Value) (hs : a.eval s = v) (hown : w.ownsRow base e 1 v n xs)
    (A : Option Addr) (m : Nat) (l : List Value) (c : Nat) (hx : a.eval x = .slice A m c) (hm : m = l.length) (hB : Reads w A l) (hnil : A = none → c = 0) (h1 : ∀ u ∈ l, u.oneCell' = true)
    (hl : n + m ≤ maxLen) (hb : (n + m) * bytes ≤ 140737488355328) (hbase : base ≤ w.heap.size)
    (h : ∀ v' w', w'.ownsRow base e 1 v' (n + m) (xs ++ l) → w.grownBy w' v.ownBlock → (v'.ownBlock = v.ownBlock ∨ v'.ownBlock = some w.heap.size) → wpList P ops Q rest (a.put o.dst v') w') : wpList P ops Q (o :: rest) a w := by
  obtain ⟨i0, hi, hz0, hz1, hz2⟩ := info_parts hinfo
  subst hm
  cases A with
  | none =>
    have hl : l = [] := by
      cases l with
      | nil => rfl
      | cons y l => obtain ⟨ad, e, _⟩ := hB.2 0 (by simp); cases e
    subst hl
    obtain rfl := hnil rfl
    refine wpList_append_own_none hgd s x t ho base e i0 1 ht hi v _ _ hs hown hx ?_
    exact h v w (by simpa using hown) ⟨rfl, rfl, rfl, Nat.le_refl _, fun _ _ _ => rfl⟩ (.inl rfl)
  | some ad =>
    refine wpList_append_own_at _ hgd s x t ho base e i0 z 1 bytes ht hi hz0 hz1 hz2 hz (by decide) v n xs hs hown ad l.length c l hx (by simp) ?_ h1 hl hb hbase ?_
    · intro j u hj
      obtain ⟨hjl, rfl⟩ := List.getElem?_eq_some_iff.1 hj
      obtain ⟨ad', e, hc⟩ := hB.2 j hjl
      cases e
      exact hc
    · intro v' w' h1 h2 _ h3
      exact h v' w' h1 h2 h3
theorem Touch.toBelow {w w' : World} (h : Touch [] w w') : Below w.heap.size w w' := ⟨h.os, h.tape, h.output, h.size, fun k hk => h.block k hk (by simp)⟩
end Go.Proofs.Ythieemfcmehdiaa
