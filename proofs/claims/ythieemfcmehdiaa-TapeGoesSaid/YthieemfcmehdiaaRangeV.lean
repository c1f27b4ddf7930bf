/- A range over a function whose yielded values lie in memory that the iterator itself has made: the iterator's contract tells the body what holds of each value. -/
import Derived.RangeFuncNested
import Derived.RangeFuncLeaves
namespace Go.Proofs.Ythieemfcmehdiaa
open Go Go.RowKit
section
variable {α : Type} {P : Program}
/-- an iterator's contract: at each yield V holds of the value and the world; Home is what the caller's invariant grants in return -/
def Iter (n : Nat) (P : Program) (gf : Nat) (lb : Array Value) (encs : α → Array Value) (V : List α → World → α → Prop) (Home : World → Prop) (S Sp : List α → Prop) : Prop :=
  ∀ (l : Nat) (J Jx : List α → World → Prop) (W : World), (∀ pre W1 W2, J pre W1 → Below W1.heap.size W1 W2 → J pre W2) → (∀ pre W1 W2, Jx pre W1 → Below W1.heap.size W1 W2 → Jx pre W2) → (∀ pre W1, J pre W1 → Home W1) →
    (∀ pre x W1, J pre W1 → V pre W1 x → YieldAt Fence.wide (n - 1) P l (encs x) W1 fun e W' => (e = .returned (.bool true) ∧ J (pre ++ [x]) W') ∨ (e = .returned (.bool false) ∧ Jx (pre ++ [x]) W')) →
    J [] W → CallsIn Fence.wide n P gf (#[.func (.yield l) #[] #[]] ++ lb) W fun e W' => (∃ v, e = .returned v) ∧ ((∃ xs, S xs ∧ J xs W') ∨ ∃ pre, Sp pre ∧ Jx pre W')
/-- how a round may be left -/
def roundEnd (B : Nat) (I : List α → World → Prop) (Ix : Code → List α → World → Prop) (xs : List α) (W : World) : Exit → Act → World → Prop
  | .normal, _, W' => KeepsFrom B W W' ∧ I xs W'
  | .ret, _, W' => KeepsFrom B W W' ∧ Ix .ret xs W'
  | .exit id, _, W' => KeepsFrom B W W' ∧ Ix (.exit id) xs W'
  | _, _, _ => False
theorem grown_of_below {W W' : World} (h : Below W.heap.size W W') : W.grownBy W' none := ⟨h.os, h.tape, h.output, h.size, fun k hk _ => h.block k hk⟩
theorem OwnFrom.later {β : Type} {B : Nat} {I : β → World → Prop} (h : OwnFrom B I) {s : β} {W W' : World} (hs : I s W) (hb : Below W.heap.size W W') : I s W' := h s W W' none hs (grown_of_below hb) (fun _ e => by cases e)
theorem rangeFunc_V {n : Nat} {g : Operand} {ps : Array Tmp} {assign body : Code} {Q : Exit → Act → World → Prop} {a : Act} {w : World} (h1 : 1 ≤ n) {gf : Nat} {lb : Array Value}
    (hg : a.eval g = .func (.func gf) #[] lb) (eg : ∀ args w, (callFunc gf args).run P w = .ok (.enter gf args) w)
    {encs : α → Array Value} {V : List α → World → α → Prop} {Home : World → Prop} {S Sp : List α → Prop} (hseq : Iter (n - 1) P gf lb encs V Home S Sp) (hps : ∀ x, (encs x).size = ps.size)
    (I : List α → World → Prop) (Ix : Code → List α → World → Prop) (Ax : List α → α → Act → World → Prop) (hI : OwnFrom w.heap.size I) (hIx : ∀ c, OwnFrom w.heap.size (Ix c)) (hAx : ∀ pre x a', OwnFrom w.heap.size (fun (_ : Unit) W => Ax pre x a' W))
    (hHome : ∀ pre W, I pre W → Home W) (h0 : I [] w)
    (hassign : ∀ (l : Nat) (pre : List α) (x : α) (W : World), I pre W → V pre W x →
      assign.wpIn (Fence.wide.inRound l) (n - 1 - 1) P (Exit.then (fun a' W' => KeepsFrom w.heap.size W W' ∧ Ax pre x a' W') (fun _ _ _ => False)) { tmps := (ps.zip (encs x)).foldl (fun t (p, v) => t.setIfInBounds p v) a.tmps, defers := [] } W)
    (hbody : ∀ (l : Nat) (pre : List α) (x : α) (a' : Act) (W : World), Ax pre x a' W → body.wpIn (Fence.wide.inRound l) (n - 1 - 1) P (roundEnd w.heap.size I Ix (pre ++ [x]) W) a' W)
    (hdone : ∀ (D : Nat) (xs : List α) (W : World), w.heap.size ≤ D → S xs → I xs W → W.heap[D]? = some (.deferred (some [])) → Q .normal { a with defers := { target := .collected D, args := #[] } :: a.defers } W)
    (hstop : ∀ (D : Nat) (c : Code) (pre : List α) (W : World), w.heap.size ≤ D → Sp pre → Ix c pre W → W.heap[D]? = some (.deferred (some [])) → c.wpIn Fence.wide n P Q { a with defers := { target := .collected D, args := #[] } :: a.defers } W) :
    (Code.rangeFunc g ps assign body).wpIn Fence.wide n P Q a w := by
  refine wpIn_rangeFunc fun fn hfn => ?_
  let D := w.heap.size
  let L := w.heap.size + 1
  let mk : LoopState → Option Code → Loop := fun st pe => { state := st, pending := pe, fn, tmps := a.tmps, params := ps, assign, body, defers := D }
  let W1 := (w.alloc (.deferred (some []))).alloc (.loop (mk .ready none))
  have hL : W1.heap[L]? = some (.loop (mk .ready none)) := by
    have := World.alloc_heap_new (w.alloc (.deferred (some []))) (.loop (mk .ready none))
    rwa [World.size_alloc] at this
  have hD : W1.heap[D]? = some (.deferred (some [])) := (Below.heap_alloc _ _ _ (by show w.heap.size < _; simp)).trans (World.alloc_heap_new w _)
  have hI1 : I [] W1 := hI.alloc _ (hI.alloc _ h0)
  refine ⟨L, [{ target := .collected D, args := #[] }], W1, { target := .fn (.func gf) lb, args := #[.func (.yield L) #[] #[]] }, W1, gf, #[.func (.yield L) #[] #[]] ++ lb, W1, run_enterLoop_outer _ _ _ _ _, ?_, ?_, ?_, fun _ => h1, ?_⟩
  · simp only [resolve, hg]
    simp [go_sem]
  · intro _ _; trivial
  · simp [invoke, go_sem, eg]
  -- the caller's invariant with the two book-keeping blocks beside it
  let J : List α → World → Prop := fun pre W => I pre W ∧ W.heap[L]? = some (.loop (mk .ready none)) ∧ W.heap[D]? = some (.deferred (some []))
  let Jx : List α → World → Prop := fun pre W => ∃ c, Ix c pre W ∧ W.heap[L]? = some (.loop (mk .done (some c))) ∧ W.heap[D]? = some (.deferred (some []))
  have lt_of : ∀ {W : World} {k : Nat} {o : Obj}, W.heap[k]? = some o → k < W.heap.size := fun h => (Array.getElem?_eq_some_iff.1 h).1
  have hJb : ∀ pre A B, J pre A → Below A.heap.size A B → J pre B := fun pre A B h hb => ⟨OwnFrom.later hI h.1 hb, (hb.block L (lt_of h.2.1)).trans h.2.1, (hb.block D (lt_of h.2.2)).trans h.2.2⟩
  have hJxb : ∀ pre A B, Jx pre A → Below A.heap.size A B → Jx pre B := fun pre A B ⟨c, hc, hl, hd⟩ hb => ⟨c, OwnFrom.later (hIx c) hc hb, (hb.block L (lt_of hl)).trans hl, (hb.block D (lt_of hd)).trans hd⟩
  refine (hseq L J Jx W1 hJb hJxb (fun pre A h => hHome pre A h.1) ?_ ⟨hI1, hL, hD⟩).mono ?_
  · rintro pre x W ⟨hi, hl, hd⟩ hv
    have hy := run_yield (P := P) (args := encs x) hl (hps x)
    refine ⟨fn, _, assign, body, hy, roundIn_of_wpIn hfn (wpIn_mono (hassign L pre x W hi hv) ?_)⟩
    intro e a' Wa hp
    cases e with
    | normal =>
      obtain ⟨hk, hax⟩ := hp
      have hl1 := hk.same L _ (by show w.heap.size ≤ w.heap.size + 1; omega) hl rfl
      have hd1 := hk.same D _ (Nat.le_refl _) hd rfl
      refine ⟨_, run_beginRound hl1 rfl, ?_⟩
      have hl2 : (Wa.putObj L (.loop { mk .ready none with state := .busy })).heap[L]? = some (.loop { mk .ready none with state := .busy }) := World.putObj_heap_same (lt_of hl1)
      have hd2 : (Wa.putObj L (.loop { mk .ready none with state := .busy })).heap[D]? = some (.deferred (some [])) := (World.putObj_heap_other (by show w.heap.size ≠ w.heap.size + 1; omega)).trans hd1
      refine wpIn_mono (hbody L pre x a' _ ((hAx pre x a').putObj (s := ()) _ hax (by show w.heap.size ≤ w.heap.size + 1; omega) hl1 rfl)) ?_
      have fin : ∀ (jump : Option Code) (W3 : World), KeepsFrom w.heap.size (Wa.putObj L (.loop { mk .ready none with state := .busy })) W3 →
          (Instr.endRound L jump).run P W3 = .ok (.bool jump.isNone) (W3.putObj L (.loop (mk (if jump.isNone then .ready else .done) jump))) ∧ W3.heap[L]? = some (.loop { mk .ready none with state := .busy }) ∧
          (W3.putObj L (.loop (mk (if jump.isNone then .ready else .done) jump))).heap[L]? = some (.loop (mk (if jump.isNone then .ready else .done) jump)) ∧
          (W3.putObj L (.loop (mk (if jump.isNone then .ready else .done) jump))).heap[D]? = some (.deferred (some [])) := fun jump W3 h3 => by
        have hl3 := h3.same L _ (by show w.heap.size ≤ w.heap.size + 1; omega) hl2 rfl
        exact ⟨run_endRound jump hl3, hl3, World.putObj_heap_same (lt_of hl3), (World.putObj_heap_other (by show w.heap.size ≠ w.heap.size + 1; omega)).trans (h3.same D _ (Nat.le_refl _) hd2 rfl)⟩
      intro e3 a3 W3 hp3
      cases e3 with
      | normal =>
        obtain ⟨f1, f2, f3, f4⟩ := fin none W3 hp3.1
        exact ⟨_, _, f1, .inl ⟨rfl, hI.putObj _ hp3.2 (by show w.heap.size ≤ w.heap.size + 1; omega) f2 rfl, f3, f4⟩⟩
      | ret =>
        obtain ⟨f1, f2, f3, f4⟩ := fin (some .ret) W3 hp3.1
        exact ⟨_, _, f1, .inr ⟨rfl, .ret, (hIx _).putObj _ hp3.2 (by show w.heap.size ≤ w.heap.size + 1; omega) f2 rfl, f3, f4⟩⟩
      | exit id =>
        obtain ⟨f1, f2, f3, f4⟩ := fin (some (.exit id)) W3 hp3.1
        exact ⟨_, _, f1, .inr ⟨rfl, .exit id, (hIx _).putObj _ hp3.2 (by show w.heap.size ≤ w.heap.size + 1; omega) f2 rfl, f3, f4⟩⟩
      | goto t => exact hp3.elim
      | panic ch => exact hp3.elim
      | outgrown => exact hp3.elim
    | ret => exact hp.elim
    | exit id => exact hp.elim
    | goto t => exact hp.elim
    | panic ch => exact hp.elim
    | outgrown => exact hp.elim
  · rintro e W2 ⟨⟨v, rfl⟩, (⟨xs, hS, hi, hl, hd⟩ | ⟨pre, hSp, c, hi, hl, hd⟩)⟩
    · exact ⟨none, _, run_endLoop hl (by show LoopState.ready ≠ .busy; simp), hdone D xs _ (Nat.le_refl _) hS (hI.putObj _ hi (by show w.heap.size ≤ w.heap.size + 1; omega) hl rfl) ((World.putObj_heap_other (by show w.heap.size ≠ w.heap.size + 1; omega)).trans hd)⟩
    · exact ⟨some c, _, run_endLoop hl (by show LoopState.done ≠ .busy; simp), hstop D c pre _ (Nat.le_refl _) hSp ((hIx c).putObj _ hi (by show w.heap.size ≤ w.heap.size + 1; omega) hl rfl) ((World.putObj_heap_other (by show w.heap.size ≠ w.heap.size + 1; omega)).trans hd)⟩
end
end Go.Proofs.Ythieemfcmehdiaa
