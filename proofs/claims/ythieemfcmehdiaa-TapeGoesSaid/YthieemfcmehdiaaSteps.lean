/- The steps' loop of the laws: plain facts. -/
import Derived.Test.YthieemfcmehdiaaDoes
import Derived.Test.YthieemfcmehdiaaFew
import Derived.Test.YthieemfcmehdiaaSameT
namespace Go.Proofs.Ythieemfcmehdiaa
open Go.RowKit
set_option linter.unusedSimpArgs false
set_option linter.unusedVariables false
/-- a step's bytes lie outside a tape made later -/
theorem ReadsD.out {w w' : World} {A : Option Addr} {ds : List Step} (h : ReadsD w A ds) (b : Below w.heap.size w w') (i : Nat) (hi : i < ds.length) : BytesOut w' w.heap.size ds[i].B ds[i].k ds[i].l := by
  obtain ⟨ad, e, _, _, _, _, hr, hn⟩ := h.2 i hi
  refine ⟨hr.below b, hn, fun hne bd ebd => ?_⟩
  obtain ⟨y, l', hyl⟩ := List.exists_cons_of_ne_nil hne
  obtain ⟨ad', e', hc⟩ := hr.2 0 (by rw [hyl]; simp [bytesV])
  rw [ebd] at e'
  cases e'
  have := World.block_lt_of_cell? w _ hc
  rw [add_block] at this
  omega
/-- both tapes alike, and the document's in its box -/
def Both (T G cap : Nat) (wr : World) : Prop := ∃ ys s A c A2 c2, IsTape wr T cap ys s A c ∧ RefIs wr T cap ys s A2 c2 ∧ wr.heap[G]? = some (.cells #[.int .i64 cap, .slice A2 ys.length c2, .int .i64 s] 29 (0, 0)) ∧ Marked ys
theorem both_new {W : World} {T G n : Nat} (h : IsTape W T n [] 0 none 0) (hn : n ≤ 16777216) (q : W.heap[G]? = some (.cells #[.int .i64 n, .slice none 0 0, .int .i64 0] 29 (0, 0))) : Both T G n W :=
  ⟨[], 0, none, 0, none, 0, h, ⟨fun i hi => absurd hi (by simp), fun _ => rfl, by simp [used], hn, Nat.le_refl _, Nat.le_refl _⟩, q, fun x hx => (by cases hx)⟩
/-- what a round's boxes hold -/
structure InRound (W : World) (T G cap : Nat) (ys : List Thing) (s : Nat) (A : Option Addr) (c : Nat) (A2 : Option Addr) (c2 : Nat) (H : Nat) (x : Step) : Prop where
  t : IsTape W T cap ys s A c
  r : RefIs W T cap ys s A2 c2
  g : W.heap[G]? = some (.cells #[.int .i64 cap, .slice A2 ys.length c2, .int .i64 s] 29 (0, 0))
  o : BytesOut W T x.B x.k x.l
  l : x.l.length ≤ 200
  m : Marked ys
  d0 : W.cell? ⟨H, 0, none⟩ = some (.int .i64 x.verb)
  d1 : W.cell? ⟨H, 1, none⟩ = some (.int .i64 x.n)
  d2 : W.cell? ⟨H, 2, none⟩ = some (.int .i64 x.m)
  d3 : W.cell? ⟨H, 3, none⟩ = some (.slice x.B x.l.length x.k)
theorem in_round {wo : World} {T G cap s c c2 : Nat} {ys : List Thing} {A A2 : Option Addr} {x : Step} (ht : IsTape wo T cap ys s A c) (hr : RefIs wo T cap ys s A2 c2)
    (hg : wo.heap[G]? = some (.cells #[.int .i64 cap, .slice A2 ys.length c2, .int .i64 s] 29 (0, 0))) (ho : BytesOut wo T x.B x.k x.l) (hl : x.l.length ≤ 200) (hm : Marked ys) :
    InRound (wo.alloc (.cells #[.int .i64 x.verb, .int .i64 x.n, .int .i64 x.m, .slice x.B x.l.length x.k] 32)) T G cap ys s A c A2 c2 wo.heap.size x := by
  have b := below_new wo (.cells #[.int .i64 x.verb, .int .i64 x.n, .int .i64 x.m, .slice x.B x.l.length x.k] 32)
  exact ⟨ht.below b, hr.keep (Rest.below b), (b.block _ (Array.getElem?_eq_some_iff.1 hg).1).trans hg, ho.keep (Rest.below b), hl, hm,
    (cell_new wo _ 32 (0, 0) 0).trans rfl, (cell_new wo _ 32 (0, 0) 1).trans rfl, (cell_new wo _ 32 (0, 0) 2).trans rfl, (cell_new wo _ 32 (0, 0) 3).trans rfl⟩
section
variable {W : World} {T G cap s c c2 H : Nat} {ys : List Thing} {A A2 : Option Addr} {x : Step}
theorem InRound.r0 (h : InRound W T G cap ys s A c A2 c2 H x) : W.cell? ⟨G, 0, none⟩ = some (.int .i64 cap) := (cell_of_row W _ 0 _ _ _ h.g).trans rfl
theorem InRound.r1 (h : InRound W T G cap ys s A c A2 c2 H x) : W.cell? ⟨G, 1, none⟩ = some (.slice A2 ys.length c2) := (cell_of_row W _ 1 _ _ _ h.g).trans rfl
theorem InRound.r2 (h : InRound W T G cap ys s A c A2 c2 H x) : W.cell? ⟨G, 2, none⟩ = some (.int .i64 s) := (cell_of_row W _ 2 _ _ _ h.g).trans rfl
theorem InRound.does (h : InRound W T G cap ys s A c A2 c2 H x) : Calls Try.prog 12 #[.pointer (some ⟨T, 0, none⟩), refV cap ys.length s A2 c2, .agg #[.int .i64 x.verb, .int .i64 x.n, .int .i64 x.m, .slice x.B x.l.length x.k]] W fun e w' => ∃ ys' s', Did W w' T cap ys' s' e ∧ Marked ys' := (does_any h.t h.r _ _ _ _ _ _ h.o h.l).mono fun e w' q => by obtain ⟨ys', s', q1, q2⟩ := q; exact ⟨ys', s', q1, q2 h.m⟩
end
/-- the box of r behind a step -/
structure BoxOf (w6 : World) (T G cap : Nat) (ys : List Thing) (s : Nat) (A2 : Option Addr) (c2 : Nat) : Prop where
  t : ∃ A c, IsTape w6 T cap ys s A c
  r : RefIs w6 T cap ys s A2 c2
  m : Marked ys
  g : ∃ (a : Int) (b : Option Addr × Nat × Nat) (c : Int), w6.heap[G]? = some (.cells #[.int .i64 a, .slice b.1 b.2.1 b.2.2, .int .i64 c] 29 (0, 0))
theorem box_of {W w6 : World} {T G cap s c c2 H s' : Nat} {ys ys' : List Thing} {A A2 : Option Addr} {x : Step} {e : Ending} (h : InRound W T G cap ys s A c A2 c2 H x) (d : Did W w6 T cap ys' s' e ∧ Marked ys') (hne : T ≠ G) :
    ∃ A3 c3, e = .returned (.tuple #[refV cap ys'.length s' A3 c3, .bool true]) ∧ BoxOf w6 T G cap ys' s' A3 c3 ∧ Touch [T] W w6 := by
  obtain ⟨⟨A', c', A3, c3, he, ht, hr, tt⟩, hm⟩ := d
  exact ⟨A3, c3, he, ⟨⟨_, _, ht⟩, hr, hm, cap, (A2, ys.length, c2), s, (tt.block G (Array.getElem?_eq_some_iff.1 h.g).1 (by simpa using fun e => hne e.symm)).trans h.g⟩, tt⟩
theorem BoxOf.cells {w6 : World} {T G cap s c2 : Nat} {ys : List Thing} {A2 : Option Addr} (h : BoxOf w6 T G cap ys s A2 c2) : (∀ j, w6.frozen? ⟨G, j, none⟩ = false) ∧ (∃ v, w6.cell? ⟨G, 0, none⟩ = some v) ∧ (∃ v, w6.cell? ⟨G, 1, none⟩ = some v) ∧ ∃ v, w6.cell? ⟨G, 2, none⟩ = some v := by
  obtain ⟨a, b, c, hg⟩ := h.g
  exact ⟨fun j => frozen_of_row w6 G j _ _ hg, ⟨_, (cell_of_row w6 _ 0 _ _ _ hg).trans rfl⟩, ⟨_, (cell_of_row w6 _ 1 _ _ _ hg).trans rfl⟩, ⟨_, (cell_of_row w6 _ 2 _ _ _ hg).trans rfl⟩⟩
theorem BoxOf.next {w6 : World} {T G cap s c2 : Nat} {ys : List Thing} {A2 : Option Addr} (h : BoxOf w6 T G cap ys s A2 c2) (hne : T ≠ G) :
    Both T G cap (((w6.setCell ⟨G, 0, none⟩ (.int .i64 cap)).setCell ⟨G, 1, none⟩ (.slice A2 ys.length c2)).setCell ⟨G, 2, none⟩ (.int .i64 s)) := by
  obtain ⟨A, c, ht⟩ := h.t
  obtain ⟨a, b, d, hg⟩ := h.g
  have tt := three_touch w6 G (.int .i64 cap) (.slice A2 ys.length c2) (.int .i64 s)
  exact ⟨ys, s, A, c, A2, c2, ht.aside hg (plain_ref _ _ _ _ _) tt hne, h.r.aside hg (plain_ref _ _ _ _ _) tt, three_set hg _ _ _, h.m⟩
theorem below_next {w wo w6 : World} {T G : Nat} (o : Obj) (b : Below T w wo) (hs : T ≤ wo.heap.size) (t : Touch [T] (wo.alloc o) w6) (hG : T ≤ G) (x y z : Value) :
    Below T w (((w6.setCell ⟨G, 0, none⟩ x).setCell ⟨G, 1, none⟩ y).setCell ⟨G, 2, none⟩ z) := by
  have b1 := b.alloc hs o
  have b2 := Touch.below b1 (by simp; omega) t (by intro q hq; simp at hq; omega)
  exact Touch.below b2 (by have := t.size; simp at this; omega) (three_touch w6 G x y z) (by intro q hq; simp at hq; omega)
theorem below_does {w wo w6 : World} {T : Nat} (o : Obj) (b : Below T w wo) (hs : T ≤ wo.heap.size) (t : Touch [T] (wo.alloc o) w6) : Below T w w6 ∧ T ≤ w6.heap.size := by
  have b1 := b.alloc hs o
  exact ⟨Touch.below b1 (by simp; omega) t (by intro q hq; simp at hq; omega), by have := t.size; simp at this; omega⟩
theorem below_three {w W : World} {T G : Nat} (b : Below T w W) (hs : T ≤ W.heap.size) (hG : T ≤ G) (x y z : Value) : Below T w (((W.setCell ⟨G, 0, none⟩ x).setCell ⟨G, 1, none⟩ y).setCell ⟨G, 2, none⟩ z) :=
  Touch.below b hs (three_touch W G x y z) (by intro q hq; simp at hq; omega)
theorem BoxOf.below {w6 w7 : World} {T G cap s c2 : Nat} {ys : List Thing} {A2 : Option Addr} (h : BoxOf w6 T G cap ys s A2 c2) (b : Below w6.heap.size w6 w7) : BoxOf w7 T G cap ys s A2 c2 := by
  obtain ⟨A, c, ht⟩ := h.t
  obtain ⟨a, v, d, hg⟩ := h.g
  exact ⟨⟨A, c, ht.below b⟩, h.r.keep (Rest.below b), h.m, a, v, d, (b.block G (Array.getElem?_eq_some_iff.1 hg).1).trans hg⟩
theorem RefIs.readsI {w : World} {T cap safe c : Nat} {xs : List Thing} {A : Option Addr} (h : RefIs w T cap xs safe A c) : ReadsI w A xs := ⟨by have := h.len; omega, fun i hi => by
  obtain ⟨ad, e, _, c0, B, k, c1, hr⟩ := h.1 i hi
  exact ⟨ad, e, by rw [Nat.mul_comm]; exact c0, B, k, by rw [Nat.mul_comm, ← add_one']; exact c1, hr.1⟩⟩
theorem below_touch {T : Nat} {w a b : World} (h : Below T w a) (hs : T ≤ a.heap.size) (t : Touch [T] a b) : Below T w b := Touch.below h hs t (by intro q hq; simp at hq; omega)
/-- what Items gave outlives a change of the tape itself -/
theorem ListIs.touch {W W' : World} {e : TypeId} {base T cap safe c : Nat} {v : Value} {xs ys : List Thing} {A : Option Addr} (h : ListIs W e base v xs) (t : Touch [T] W W') (ht : IsTape W T cap ys safe A c) (hT : T < base) : ListIs W' e base v xs := by
  obtain ⟨gs, hg, ho, ha⟩ := h
  refine ⟨gs, hg, own_kept ho t (fun g hgg => ?_), fun x hx => (ha x hx).touch t (fun k hk cs hc => ?_)⟩
  · have := (own_block_lt ho hgg).1; simp; omega
  · simp at hk; subst hk; rw [ht.blk] at hc; cases hc
theorem ListIs.below {W W' : World} {e : TypeId} {base : Nat} {v : Value} {xs : List Thing} (h : ListIs W e base v xs) (b : Below W.heap.size W W') : ListIs W' e base v xs := by
  obtain ⟨gs, hg, ho, ha⟩ := h
  exact ⟨gs, hg, own_kept ho (Touch.of_below b []) (fun g _ => by simp), fun x hx => (ha x hx).touch (Touch.of_below b []) (fun k hk => by simp at hk)⟩
theorem IsTape.len {w : World} {T cap safe c : Nat} {xs : List Thing} {A : Option Addr} (h : IsTape w T cap xs safe A c) : xs.length ≤ 2097152 := by
  have h1 := h.fits
  have h2 := h.small
  have h3 := used_len xs
  omega
/-- a crash of a tape that is all safe -/
theorem crash_safe {w : World} {T cap c : Nat} {xs : List Thing} {A : Option Addr} (h : IsTape w T cap xs xs.length A c) (keep torn : Int) :
    Calls Try.prog 22 #[.pointer (some ⟨T, 0, none⟩), .int .i64 keep, .int .i64 torn] w fun e w' => (∃ v, e = .returned v) ∧ (∃ A' c', IsTape w' T cap xs xs.length A' c') ∧ Touch [T] w w' := by
  refine (crash_any h keep torn xs.length (by unfold crashN; omega) [] (by simp [tailOf])).mono ?_
  rintro e w' ⟨h1, A', c', h2, h3⟩
  simp only [List.take_length, List.append_nil] at h2
  exact ⟨h1, ⟨A', c', h2⟩, h3⟩
/-- an item of what Items gave -/
theorem ListIs.at {W : World} {e : TypeId} {base : Nat} {xs : List Thing} {A : Option Addr} {n c : Nat} (h : ListIs W e base (.slice A n c) xs) (i : Nat) (hi : i < xs.length) :
    ∃ ad, A = some ad ∧ W.cell? (ad.add (i * 2)) = some (.bool xs[i].1) ∧ ∃ B k, W.cell? ⟨(ad.add (i * 2)).block, (ad.add (i * 2)).off + 1, none⟩ = some (.slice B xs[i].2.length k) ∧ Reads W B (bytesV xs[i].2) ∧ (B = none → k = 0) ∧ xs[i].2.length ≤ k := by
  obtain ⟨gs, rfl, ho, hg⟩ := h
  rcases ho.2 with ⟨h1, h0⟩ | ⟨g, cap, cur, h1, hb, hgg, hnc, _⟩
  · obtain rfl := List.eq_nil_of_length_eq_zero h0
    simp at hi
  · cases h1
    have hi' : i < gs.length := by simpa using hi
    have row := ho.cells (g := g) rfl
    obtain ⟨h1, h2⟩ := heads_at gs i hi'
    have c0 := row _ _ h1
    have c1 := row _ _ h2
    have e1 : (gs.map (·.t))[i] = gs[i].t := by simp
    rw [e1]
    have hga := hg _ (List.getElem_mem hi')
    refine ⟨⟨g, 0, none⟩, rfl, c0, gs[i].B, gs[i].c, ?_, hga.1, hga.2.1⟩
    rw [add_one'] at c1
    exact c1
/-- where the rest of a slice of items lies -/
def Suf (A : Option Addr) (n len : Nat) (A' : Option Addr) : Prop := n < len → ∃ ad, A = some ad ∧ A' = some (ad.add (n * 2))
theorem used_next {xs : List Thing} {k : Nat} (h : k < xs.length) : used (xs.take k) + cost xs[k] ≤ used xs := by
  have h1 := used_parts xs (k + 1)
  have h2 := used_take_succ h
  omega
end Go.Proofs.Ythieemfcmehdiaa
