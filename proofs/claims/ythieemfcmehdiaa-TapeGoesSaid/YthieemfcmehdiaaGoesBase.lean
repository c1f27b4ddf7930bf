/- TapeGoes: the boxes of its argument and its result; its range. -/
import Derived.Test.YthieemfcmehdiaaSteps
import Derived.Test.YthieemfcmehdiaaSame
import Derived.Test.YthieemfcmehdiaaNil
import Derived.Test.YthieemfcmehdiaaRound
import Derived.Test.YthieemfcmehdiaaItems
import Derived.Test.YthieemfcmehdiaaHeld
namespace Go.Proofs.Ythieemfcmehdiaa
open Go.RowKit Go.Shelf
set_option linter.unusedSimpArgs false
set_option linter.unusedVariables false
section
variable {w w0 : World} {m : Nat} (h : (w.alloc (.cells #[.int .u8 m] 5)).alloc (.cells #[.bool false] 4) = w0)
include h
theorem boxes_below : Below w.heap.size w w0 := by rw [← h]; exact (below_new _ _).alloc (by simp) _
theorem boxes_size : w0.heap.size = w.heap.size + 2 := by rw [← h]; simp
theorem boxes_res : w0.heap[w.heap.size + 1]? = some (.cells #[.bool false] 4 (0, 0)) := by rw [← h]; simpa using block_new (w.alloc (.cells #[.int .u8 m] 5)) (.cells #[.bool false] 4)
theorem boxes_stop : w0.heap[w.heap.size]? = some (.cells #[.int .u8 m] 5 (0, 0)) := by rw [← h]; exact ((below_new _ _).block _ (by simp)).trans (block_new w _)
end
theorem res_end {w w4 : World} {b : Bool} (B : Below w.heap.size w w4) (hc : w4.cell? ⟨w.heap.size + 1, 0, none⟩ = some (.bool b)) :
    (w4.setCell ⟨w.heap.size + 1, 0, none⟩ (.bool true)).cell? ⟨w.heap.size + 1, 0, none⟩ = some (.bool true) ∧ Below w.heap.size w (w4.setCell ⟨w.heap.size + 1, 0, none⟩ (.bool true)) :=
  ⟨World.cell?_setCell_same' w4 _ _ (by rw [hc]; rfl), B.setCell (p := ⟨w.heap.size + 1, 0, none⟩) (by simp) _⟩
/-- what a round of the range finds: n's box at N, the iterator's at N + 1, all older memory as it was -/
structure GoI (N T len : Nat) (wo : World) (p : Nat) (W : World) : Prop where
  bel : Below N wo W
  n0 : W.heap[N]? = some (.cells #[.int .i64 p] 3 (0, 0))
  c0 : W.heap[N + 1]? = some (.cells #[.pointer (some ⟨T, 0, none⟩)] 23 (0, 0))
  sz : N + 2 ≤ W.heap.size
  pl : p ≤ len
theorem goI_new (wo : World) (T len : Nat) {N : Nat} (hN : wo.heap.size = N) : GoI N T len wo 0 ((wo.alloc (.cells #[.int .i64 0] 3)).alloc (.cells #[.pointer (some ⟨T, 0, none⟩)] 23)) := by
  subst hN
  refine ⟨(below_new _ _).alloc (by simp) _, ?_, ?_, by simp, Nat.zero_le _⟩
  · exact ((below_new (wo.alloc _) _).block _ (by simp)).trans (block_new wo _)
  · simpa using block_new (wo.alloc (.cells #[.int .i64 0] 3)) (.cells #[.pointer (some ⟨T, 0, none⟩)] 23)
theorem goI_own {N T len p B : Nat} {wo W W' : World} {row : Option Nat} (hN : wo.heap.size = N) (hB : N ≤ B) (h : GoI N T len wo p W) (hg : W.grownBy W' row) (hr : ∀ r, row = some r → B ≤ r ∧ ∃ o : Obj, W.heap[r]? = some o ∧ o.isCells = false) : GoI N T len wo p W' := by
  have hr' : ∀ r, row = some r → ∃ o : Obj, W.heap[r]? = some o ∧ o.isCells = false := fun r e => (hr r e).2
  refine ⟨?_, block_own h.n0 hg hr', block_own h.c0 hg hr', Nat.le_trans h.sz hg.size, h.pl⟩
  exact ownFrom_below (β := Unit) (B := B) (by omega) hB () W W' row h.bel hg hr
theorem GoI.touch {N T len p g : Nat} {wo W W' : World} (h : GoI N T len wo p W) (t : Touch [g] W W') (hg : N + 2 ≤ g) : GoI N T len wo p W' :=
  ⟨Touch.below h.bel (by have := h.sz; omega) t (by intro q hq; simp at hq; omega), (t.block N (by have := h.sz; omega) (by simp; omega)).trans h.n0, (t.block (N + 1) (by have := h.sz; omega) (by simp; omega)).trans h.c0, Nat.le_trans h.sz t.size, h.pl⟩
theorem GoI.below {N T len p : Nat} {wo W W' : World} (h : GoI N T len wo p W) (b : Below W.heap.size W W') : GoI N T len wo p W' :=
  ⟨below_tr h.bel (by have := h.sz; omega) b, (b.block N (by have := h.sz; omega)).trans h.n0, (b.block (N + 1) (by have := h.sz; omega)).trans h.c0, Nat.le_trans h.sz b.size, h.pl⟩
theorem GoI.step {N T len p : Nat} {wo W : World} (h : GoI N T len wo p W) (hp : p < len) (v : Int) (hv : v = (p + 1 : Nat)) : GoI N T len wo (p + 1) (W.setCell ⟨N, 0, none⟩ (.int .i64 v)) := by
  subst hv
  have t := Touch.setCell W ⟨N, 0, none⟩ (.int .i64 ((p + 1 : Nat) : Int))
  refine ⟨Touch.below h.bel (by have := h.sz; omega) t (by intro q hq; simp at hq; omega), ?_, (t.block (N + 1) (by have := h.sz; omega) (by simp)).trans h.c0, Nat.le_trans h.sz t.size, hp⟩
  rw [heap_setCell_same W N 0 _ 3 _ h.n0]
  simp
/-- the bytes that a round has got, to be turned -/
def BytesAt (base : Nat) (w : World) (B : Option Addr) (n : Nat) : Prop := (0 < n → ∃ bd, B = some bd) ∧ ∀ bd, B = some bd → base ≤ bd.block ∧ (∃ cs, w.heap[bd.block]? = some (.cells cs 5 (0, 0))) ∧ ∀ j, j < n → ∃ y, w.cell? (bd.add j) = some (.int .u8 y)
theorem GotAt.bytes {W : World} {base : Nat} {x : Got} (h : GotAt W base x) : BytesAt base W x.B x.t.2.length := by
  have hl : ∀ j, j < x.t.2.length → j < (bytesV x.t.2).length := fun j hj => by simpa [bytesV] using hj
  refine ⟨fun h0 => ?_, fun bd e => ⟨(h.2.2 bd e).1, (h.2.2 bd e).2, fun j hj => ?_⟩⟩
  · obtain ⟨ad, e, _⟩ := h.1.2 0 (hl 0 h0)
    exact ⟨ad, e⟩
  · obtain ⟨ad, e', hc⟩ := h.1.2 j (hl j hj)
    rw [e] at e'
    cases e'
    exact ⟨_, by rw [hc]; simp [bytesV]; rfl⟩
theorem BytesAt.below {base n : Nat} {w w' : World} {B : Option Addr} (h : BytesAt base w B n) (b : Below w.heap.size w w') : BytesAt base w' B n := ⟨h.1, fun bd e => by
  obtain ⟨h1, ⟨cs, h2⟩, h3⟩ := h.2 bd e
  exact ⟨h1, ⟨cs, (b.block _ (Array.getElem?_eq_some_iff.1 h2).1).trans h2⟩, fun j hj => by obtain ⟨y, hy⟩ := h3 j hj; exact ⟨y, cell_below b hy⟩⟩⟩
theorem BytesAt.frozen {base n : Nat} {w : World} {bd : Addr} (h : BytesAt base w (some bd) n) (j : Nat) : w.frozen? (bd.add j) = false := by
  obtain ⟨_, ⟨cs, h2⟩, _⟩ := h.2 bd rfl
  simp [World.frozen?, add_block, h2]
theorem BytesAt.set {base n j : Nat} {w : World} {bd : Addr} (h : BytesAt base w (some bd) n) (hj : j < n) (v : Int) : BytesAt base (w.setCell (bd.add j) (.int .u8 v)) (some bd) n := by
  obtain ⟨h1, ⟨cs, h2⟩, h3⟩ := h.2 bd rfl
  refine ⟨h.1, fun bd' e => ?_⟩
  cases e
  refine ⟨h1, ?_, fun k hk => ?_⟩
  · simp [World.setCell, Array.getElem?_modify, add_block, h2]
  · rcases Nat.decEq k j with hkj | hkj
    · obtain ⟨y, hy⟩ := h3 k hk
      exact ⟨y, (World.cell?_setCell_other w (bd.add j) (bd.add k) (.int .u8 v) (fun e => hkj (by have := congrArg Addr.off e; rw [add_off, add_off] at this; omega))).trans hy⟩
    · subst hkj
      obtain ⟨y, hy⟩ := h3 k hk
      exact ⟨v, World.cell?_setCell_same' w _ _ (by rw [hy]; rfl)⟩
theorem calm_others {w w' : World} (h : Calm w w') : KeepsOthers w w' := ⟨by rw [h.heap]; exact Nat.le_refl _, fun k o hk _ => by rw [h.heap]; exact hk⟩
theorem lt_of_some {w : World} {D : Nat} {o : Obj} (h : w.heap[D]? = some o) : D < w.heap.size := (Array.getElem?_eq_some_iff.1 h).1
/-- a drawn region none of whose orders panics -/
theorem start_heldF {P : Program} {ops : Array Oper} {K : Act → World → Prop} {Q : Exit → Act → World → Prop} {S : World → Prop} {id n : Nat} {l : Array Bool} {a : Act} {w : World} (hm : P.follows .mixedOrders = true) (hS : S w.drew) (hn : ops.size = n) (hl : Array.replicate n false = l)
    (h : wpAnyH P .any ops (Exit.then K (fun _ _ _ => False)) S n l a w.drew) : (Code.region id ops true).wp P (Exit.then K Q) a w :=
  (wpIn_wide (n := 9)).1 (wpIn_mono ((wpIn_wide (n := 9)).2 (start_held hm hS hn hl h)) (fun e a' w' q => by
    cases e with
    | normal => exact q
    | _ => exact q.elim))
theorem one_put {b D : Nat} {u : Value} {w W : World} (hc : W.cell? ⟨b, 0, none⟩ = some u) (h1 : W.heap[D]? = some (.deferred (some []))) (hD : w.heap.size ≤ D) (hB : Below w.heap.size w W) :
    (W.putObj D (.deferred none)).cell? ⟨b, 0, none⟩ = some u ∧ Below w.heap.size w (W.putObj D (.deferred none)) :=
  ⟨cell_kept hc (grownBy_putObj' _ D (.deferred none)) (fun r e => by cases e; exact ⟨_, h1, rfl⟩), hB.trans (belowK_b (w := w) (Nat.le_refl _) _ D _ _ hD h1 rfl rfl)⟩
/-- what the last region reads -/
structure GoesS (N G b5 len kk m : Nat) (A : Option Addr) (c : Nat) (w : World) : Prop where
  q0 : w.cell? ⟨N, 0, none⟩ = some (.int .i64 kk)
  q1 : w.cell? ⟨G, 1, none⟩ = some (.slice A len c)
  q2 : w.cell? ⟨b5, 0, none⟩ = some (.int .u8 m)
theorem goesS {N G b5 len kk m c : Nat} {A : Option Addr} {w : World} (h0 : w.cell? ⟨N, 0, none⟩ = some (.int .i64 kk)) (h1 : w.cell? ⟨G, 1, none⟩ = some (.slice A len c)) (h2 : w.cell? ⟨b5, 0, none⟩ = some (.int .u8 m)) : GoesS N G b5 len kk m A c w := ⟨h0, h1, h2⟩
theorem GoesS.below {N G b5 len kk m c : Nat} {A : Option Addr} {w w' : World} (h : GoesS N G b5 len kk m A c w) (b : Below w.heap.size w w') : GoesS N G b5 len kk m A c w' := ⟨cell_below b h.q0, cell_below b h.q1, cell_below b h.q2⟩
theorem GoesS.set {N G b5 len kk m c : Nat} {A : Option Addr} {w : World} {v : Value} (h : GoesS N G b5 len kk m A c w) (h1 : b5 + 1 < N) (h2 : b5 + 1 < G) : GoesS N G b5 len kk m A c (w.setCell ⟨b5 + 1, 0, none⟩ v) :=
  ⟨by rw [World.cell?_setCell_far _ _ _ _ (by show b5 + 1 ≠ N; omega)]; exact h.q0, by rw [World.cell?_setCell_far _ _ _ _ (by show b5 + 1 ≠ G; omega)]; exact h.q1, by rw [World.cell?_setCell_far _ _ _ _ (by show b5 + 1 ≠ b5; omega)]; exact h.q2⟩
/-- where the range's variables are laid -/
def goAsg (tm : Array Value) (x : Got) (X : Nat) : Array Value := (((tm.setIfInBounds 43 (.int .i64 x.k)).setIfInBounds 44 (.agg #[.bool x.t.1, .slice x.B x.t.2.length x.c])).setIfInBounds 12 (.int .i64 x.k)).setIfInBounds 13 (.pointer (some ⟨X, 0, none⟩))
/-- a range whose variables are laid into slots and one box -/
theorem rangeFunc_VX {α : Type} {P : Program} {g : Operand} {ps : Array Tmp} {assign body : Code} {Q : Exit → Act → World → Prop} {a : Act} {w : World} {gf : Nat} {lb : Array Value}
    (hg : a.eval g = .func (.func gf) #[] lb) (eg : ∀ args w, (callFunc gf args).run P w = .ok (.enter gf args) w)
    {encs : α → Array Value} {V : List α → World → α → Prop} {Home : World → Prop} {S Sp : List α → Prop} (hseq : Iter 8 P gf lb encs V Home S Sp) (hps : ∀ x, (encs x).size = ps.size)
    (asg : Array Value → α → Nat → Array Value)
    (I : List α → World → Prop) (Ix : Code → List α → World → Prop) (A1 : List α → α → World → Prop) (B1 : α → Nat → World → Prop) (hI : OwnFrom w.heap.size I) (hIx : ∀ c, OwnFrom w.heap.size (Ix c))
    (hA1 : ∀ pre x, OwnFrom w.heap.size (fun (_ : Unit) W => A1 pre x W)) (hB1 : ∀ x X, OwnFrom w.heap.size (fun (_ : Unit) W => B1 x X W))
    (hHome : ∀ pre W, I pre W → Home W) (h0 : I [] w)
    (hassign : ∀ (l : Nat) (pre : List α) (x : α) (W : World), I pre W → V pre W x →
      assign.wpIn (Fence.wide.inRound l) 7 P (Exit.then (fun a' W' => KeepsFrom w.heap.size W W' ∧ A1 pre x W' ∧ ∃ X, a' = { tmps := asg a.tmps x X, defers := [] } ∧ B1 x X W') (fun _ _ _ => False)) { tmps := (ps.zip (encs x)).foldl (fun t (p, v) => t.setIfInBounds p v) a.tmps, defers := [] } W)
    (hbody : ∀ (l : Nat) (pre : List α) (x : α) (X : Nat) (W : World), A1 pre x W → B1 x X W → body.wpIn (Fence.wide.inRound l) 7 P (roundEnd w.heap.size I Ix (pre ++ [x]) W) { tmps := asg a.tmps x X, defers := [] } W)
    (hdone : ∀ (D : Nat) (xs : List α) (W : World), w.heap.size ≤ D → S xs → I xs W → W.heap[D]? = some (.deferred (some [])) → Q .normal { a with defers := { target := .collected D, args := #[] } :: a.defers } W)
    (hstop : ∀ (D : Nat) (c : Code) (pre : List α) (W : World), w.heap.size ≤ D → Sp pre → Ix c pre W → W.heap[D]? = some (.deferred (some [])) → c.wp P Q { a with defers := { target := .collected D, args := #[] } :: a.defers } W) :
    (Code.rangeFunc g ps assign body).wp P Q a w :=
  (wpIn_wide (n := 9)).1 (rangeFunc_V (n := 9) (by decide) hg eg hseq hps I Ix (fun pre x a' W => A1 pre x W ∧ ∃ X, a' = { tmps := asg a.tmps x X, defers := [] } ∧ B1 x X W) hI hIx
    (fun pre x a' u W W' row hs hgr hr => by
      obtain ⟨h1, X, h2, h3⟩ := hs
      exact ⟨hA1 pre x () W W' row h1 hgr hr, X, h2, hB1 x X () W W' row h3 hgr hr⟩) hHome h0 hassign
    (fun l pre x a' W h => by
      obtain ⟨h1, X, rfl, h3⟩ := h
      exact hbody l pre x X W h1 h3) hdone (fun D c pre W h1 h2 h3 h4 => wpIn_wide.2 (hstop D c pre W h1 h2 h3 h4)))
end Go.Proofs.Ythieemfcmehdiaa
