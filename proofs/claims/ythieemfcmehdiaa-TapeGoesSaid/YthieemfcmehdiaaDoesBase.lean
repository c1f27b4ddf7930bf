/- does: a step in both; the boxes it makes. -/
import Derived.Test.YthieemfcmehdiaaRefCrash
import Derived.Test.YthieemfcmehdiaaRefPutNo
import Derived.Test.YthieemfcmehdiaaAppend
namespace Go.Proofs.Ythieemfcmehdiaa
open Go.RowKit
set_option linter.unusedSimpArgs false
set_option linter.unusedVariables false
/-- the boxes of does -/
structure Boxes (w : World) (G cap n safe : Nat) (A : Option Addr) (c : Nat) (vb nn mm : Int) (B : Option Addr) (lb k : Nat) : Prop where
  r : w.heap[G]? = some (.cells #[.int .i64 cap, .slice A n c, .int .i64 safe] 29 (0, 0))
  d : w.heap[G + 1]? = some (.cells #[.int .i64 vb, .int .i64 nn, .int .i64 mm, .slice B lb k] 32 (0, 0))
  z : w.heap[G + 1 + 1]? = some (.cells #[.int .i64 0, .slice none 0 0, .int .i64 0] 29 (0, 0))
section
variable {w w' : World} {G cap n safe c lb k : Nat} {A B : Option Addr} {vb nn mm : Int}
theorem Boxes.keep (h : Boxes w G cap n safe A c vb nn mm B lb k) {S : List Nat} (t : Touch S w w') (hS : ∀ x ∈ S, x < G ∨ G + 2 < x) : Boxes w' G cap n safe A c vb nn mm B lb k := by
  have l0 := (Array.getElem?_eq_some_iff.1 h.r).1
  have l1 := (Array.getElem?_eq_some_iff.1 h.d).1
  have l2 := (Array.getElem?_eq_some_iff.1 h.z).1
  exact ⟨(t.block _ l0 (fun hm => by have := hS _ hm; omega)).trans h.r, (t.block _ l1 (fun hm => by have := hS _ hm; omega)).trans h.d, (t.block _ l2 (fun hm => by have := hS _ hm; omega)).trans h.z⟩
theorem Boxes.r0 (h : Boxes w G cap n safe A c vb nn mm B lb k) : w.cell? ⟨G, 0, none⟩ = some (.int .i64 cap) := (cell_of_row w _ 0 _ _ _ h.r).trans rfl
theorem Boxes.r1 (h : Boxes w G cap n safe A c vb nn mm B lb k) : w.cell? ⟨G, 1, none⟩ = some (.slice A n c) := (cell_of_row w _ 1 _ _ _ h.r).trans rfl
theorem Boxes.r2 (h : Boxes w G cap n safe A c vb nn mm B lb k) : w.cell? ⟨G, 2, none⟩ = some (.int .i64 safe) := (cell_of_row w _ 2 _ _ _ h.r).trans rfl
theorem Boxes.rf (h : Boxes w G cap n safe A c vb nn mm B lb k) : w.frozen? ⟨G, 2, none⟩ = false := frozen_of_row w _ 2 _ _ h.r
theorem Boxes.d0 (h : Boxes w G cap n safe A c vb nn mm B lb k) : w.cell? ⟨G + 1, 0, none⟩ = some (.int .i64 vb) := (cell_of_row w _ 0 _ _ _ h.d).trans rfl
theorem Boxes.d1 (h : Boxes w G cap n safe A c vb nn mm B lb k) : w.cell? ⟨G + 1, 1, none⟩ = some (.int .i64 nn) := (cell_of_row w _ 1 _ _ _ h.d).trans rfl
theorem Boxes.d2 (h : Boxes w G cap n safe A c vb nn mm B lb k) : w.cell? ⟨G + 1, 2, none⟩ = some (.int .i64 mm) := (cell_of_row w _ 2 _ _ _ h.d).trans rfl
theorem Boxes.d3 (h : Boxes w G cap n safe A c vb nn mm B lb k) : w.cell? ⟨G + 1, 3, none⟩ = some (.slice B lb k) := (cell_of_row w _ 3 _ _ _ h.d).trans rfl
theorem Boxes.z0 (h : Boxes w G cap n safe A c vb nn mm B lb k) : w.cell? ⟨G + 1 + 1, 0, none⟩ = some (.int .i64 0) := (cell_of_row w _ 0 _ _ _ h.z).trans rfl
theorem Boxes.z1 (h : Boxes w G cap n safe A c vb nn mm B lb k) : w.cell? ⟨G + 1 + 1, 1, none⟩ = some (.slice none 0 0) := (cell_of_row w _ 1 _ _ _ h.z).trans rfl
theorem Boxes.z2 (h : Boxes w G cap n safe A c vb nn mm B lb k) : w.cell? ⟨G + 1 + 1, 2, none⟩ = some (.int .i64 0) := (cell_of_row w _ 2 _ _ _ h.z).trans rfl
theorem Boxes.zf (h : Boxes w G cap n safe A c vb nn mm B lb k) (j : Nat) : w.frozen? ⟨G + 1 + 1, j, none⟩ = false := frozen_of_row w _ j _ _ h.z
theorem boxes_new (w : World) : Boxes (((w.alloc (.cells #[.int .i64 cap, .slice A n c, .int .i64 safe] 29)).alloc (.cells #[.int .i64 vb, .int .i64 nn, .int .i64 mm, .slice B lb k] 32)).alloc (.cells #[.int .i64 0, .slice none 0 0, .int .i64 0] 29)) w.heap.size cap n safe A c vb nn mm B lb k := by
  refine ⟨?_, ?_, ?_⟩
  · exact (((below_new (w.alloc _) _).alloc (by simp) _).block _ (by simp)).trans (block_new w _)
  · refine ((below_new _ _).block _ (by simp)).trans ?_
    simpa using block_new (w.alloc (.cells #[.int .i64 cap, .slice A n c, .int .i64 safe] 29)) (.cells #[.int .i64 vb, .int .i64 nn, .int .i64 mm, .slice B lb k] 32)
  · simpa using block_new ((w.alloc (.cells #[.int .i64 cap, .slice A n c, .int .i64 safe] 29)).alloc (.cells #[.int .i64 vb, .int .i64 nn, .int .i64 mm, .slice B lb k] 32)) (.cells #[.int .i64 0, .slice none 0 0, .int .i64 0] 29)
end
/-- a block of ints and slices alone holds no item and no byte of one: items outlive its change -/
def Plain3 (cs : Array Value) : Prop := ∀ v ∈ cs, (∀ b, v ≠ .bool b) ∧ ∀ n, v ≠ .int .u8 n
theorem mem_row {w : World} {a : Addr} {v : Value} {cs : Array Value} {t : TypeId} {fr : Nat × Nat} (h : w.cell? a = some v) (hr : w.heap[a.block]? = some (.cells cs t fr)) : v ∈ cs := by
  unfold World.cell? at h
  rw [hr] at h
  simp only at h
  split at h
  · cases h
  · obtain ⟨hlt, rfl⟩ := Array.getElem?_eq_some_iff.1 h
    exact Array.getElem_mem hlt
theorem BytesOut.aside {w w' : World} {T R : Nat} {B : Option Addr} {k : Nat} {l : List UInt8} {cs : Array Value} {t : TypeId} {fr : Nat × Nat} (h : BytesOut w T B k l) (hR : w.heap[R]? = some (.cells cs t fr)) (hp : Plain3 cs)
    (r : Touch [R] w w') : BytesOut w' T B k l :=
  ⟨⟨h.1.1, fun i hi => by
    obtain ⟨ad, e, hc⟩ := h.1.2 i hi
    refine ⟨ad, e, ?_⟩
    have hb := World.block_lt_of_cell? w _ hc
    rw [add_block] at hb
    have hne : ad.block ≠ R := by
      rintro rfl
      have hm := mem_row hc (by rw [add_block]; exact hR)
      exact (hp _ hm).2 ((l[i]'(by simpa [bytesV] using hi)).toNat : Int) (by simp [bytesV])
    exact (World.cell?_of_block (w := w) (r.block _ (by rw [add_block]; exact hb) (by rw [add_block]; simpa using hne))).trans hc⟩, h.2⟩
theorem Items.aside {w w' : World} {T R : Nat} {A : Option Addr} {xs : List Thing} {cs : Array Value} {t : TypeId} {fr : Nat × Nat} (h : Items w T A xs) (hR : w.heap[R]? = some (.cells cs t fr)) (hp : Plain3 cs)
    (r : Touch [R] w w') : Items w' T A xs := fun i hi => by
  obtain ⟨ad, e, ho, hc, B, k, hc2, hb⟩ := h i hi
  have hl := World.block_lt_of_cell? w _ hc
  rw [add_block] at hl
  have hne : ad.block ≠ R := by
    rintro rfl
    exact (hp _ (mem_row hc (by rw [add_block]; exact hR))).1 _ rfl
  exact ⟨ad, e, ho, (World.cell?_of_block (w := w) (r.block _ (by rw [add_block]; exact hl) (by rw [add_block]; simpa using hne))).trans hc, B, k,
    (World.cell?_of_block (w := w) (r.block _ (by rw [add_block]; exact hl) (by rw [add_block]; simpa using hne))).trans hc2, hb.aside hR hp r⟩
theorem IsTape.aside {w w' : World} {T R cap safe c : Nat} {A : Option Addr} {xs : List Thing} {cs : Array Value} {t : TypeId} {fr : Nat × Nat} (h : IsTape w T cap xs safe A c) (hR : w.heap[R]? = some (.cells cs t fr)) (hp : Plain3 cs)
    (r : Touch [R] w w') (hne : T ≠ R) : IsTape w' T cap xs safe A c := ⟨(r.block T h.lt (by simpa using hne)).trans h.blk, h.items.aside hR hp r, h.nil, h.fits, h.small, h.safe, h.room⟩
theorem RefIs.aside {w w' : World} {T R cap safe c : Nat} {A : Option Addr} {xs : List Thing} {cs : Array Value} {t : TypeId} {fr : Nat × Nat} (h : RefIs w T cap xs safe A c) (hR : w.heap[R]? = some (.cells cs t fr)) (hp : Plain3 cs)
    (r : Touch [R] w w') : RefIs w' T cap xs safe A c := ⟨h.1.aside hR hp r, h.2⟩
theorem plain_ref (a b : Int) (A : Option Addr) (n c : Nat) : Plain3 #[.int .i64 a, .slice A n c, .int .i64 b] := by
  intro v hv
  simp at hv
  rcases hv with rfl | rfl | rfl <;> exact ⟨fun _ h => (by cases h), fun _ h => (by cases h)⟩
/-- what a step left -/
def Did (w w' : World) (T cap : Nat) (ys : List Thing) (s : Nat) (e : Ending) : Prop := ∃ A' c' A2 c2, e = .returned (.tuple #[refV cap ys.length s A2 c2, .bool true]) ∧ IsTape w' T cap ys s A' c' ∧ RefIs w' T cap ys s A2 c2 ∧ Touch [T] w w'
theorem did_end {w W : World} {T cap s c c2 G : Nat} {ys : List Thing} {A A2 : Option Addr} (h : IsTape W T cap ys s A c) (hr : RefIs W T cap ys s A2 c2)
    (hz : W.heap[G + 1 + 1]? = some (.cells #[.int .i64 0, .slice none 0 0, .int .i64 0] 29 (0, 0))) (hG : w.heap.size ≤ G) (hT : T < w.heap.size) (t : Touch [T] w W) (m : Nat) (hm : ys.length = m) :
    (((W.setCell ⟨G + 1 + 1, 0, none⟩ (.int .i64 cap)).setCell ⟨G + 1 + 1, 1, none⟩ (.slice A2 m c2)).setCell ⟨G + 1 + 1, 2, none⟩ (.int .i64 s)).heap[G + 1 + 1]? = some (.cells #[.int .i64 cap, .slice A2 m c2, .int .i64 s] 29 (0, 0)) ∧
    Did w (((W.setCell ⟨G + 1 + 1, 0, none⟩ (.int .i64 cap)).setCell ⟨G + 1 + 1, 1, none⟩ (.slice A2 m c2)).setCell ⟨G + 1 + 1, 2, none⟩ (.int .i64 s)) T cap ys s (.returned (.tuple #[refV cap m s A2 c2, .bool true])) := by
  subst hm
  have tt := three_touch W (G + 1 + 1) (.int .i64 cap) (.slice A2 ys.length c2) (.int .i64 s)
  refine ⟨three_set hz _ _ _, A, c, A2, c2, rfl, h.aside hz (plain_ref _ _ _ _ _) tt (by omega), hr.aside hz (plain_ref _ _ _ _ _) tt, ?_⟩
  exact t.trans tt (by intro x hx; simp at hx; right; omega)
theorem did_drew {w W : World} {T cap s : Nat} {ys : List Thing} {e : Ending} (h : Did w W T cap ys s e) : Did w W.drew T cap ys s e := by
  obtain ⟨A', c', A2, c2, h1, h2, h3, h4⟩ := h
  exact ⟨A', c', A2, c2, h1, h2.below ((Below.refl _ _).drew), h3.keep (Rest.below ((Below.refl _ _).drew)), h4.drew⟩
theorem ref_take {w : World} {T cap safe c : Nat} {xs : List Thing} {A : Option Addr} (h : RefIs w T cap xs safe A c) (n : Nat) (hn : n ≤ xs.length) : RefIs w T cap (xs.take n) (min safe n) A c :=
  ⟨h.1.take n, h.2.1, by have := used_parts xs n; have := h.2.2.1; omega, h.2.2.2.1, by have := h.2.2.2.2.1; simp; omega, by have := h.2.2.2.2.2; simp; omega⟩
end Go.Proofs.Ythieemfcmehdiaa
