/- The tape behind an append, when the appended slice's own block is written later. -/
import Derived.Test.YthieemfcmehdiaaDoesBase
namespace Go.Proofs.Ythieemfcmehdiaa
open Go.RowKit
set_option linter.unusedSimpArgs false
set_option linter.unusedVariables false
theorem items_of_cells {w : World} {T g : Nat} {ys : List Thing} {cs : List Value} (h : Cells w T ys cs) (row : ∀ j v, cs[j]? = some v → w.cell? ⟨g, j, none⟩ = some v) (hg : g ≠ T) : Items w T (some ⟨g, 0, none⟩) ys := fun i hi => by
  obtain ⟨o1, B, k, o2, o3⟩ := h.2 i hi hi
  exact ⟨_, rfl, hg, by rw [add_plain']; exact row _ _ o1, B, k, by rw [add_plain']; exact row _ _ o2, o3⟩
theorem olds_unique {w wc : World} {T : Nat} {A : Option Addr} {xs : List Thing} {cs olds : List Value} (h : Items w T A xs) (hc : Cells w T xs cs) (hcells : ∀ ad, A = some ad → ∀ j v, cs[j]? = some v → w.cell? (ad.add j) = some v)
    (b : Below w.heap.size w wc) (hl : olds.length = 2 * xs.length) (ho : ∀ ad, A = some ad → ∀ j v, olds[j]? = some v → wc.cell? (ad.add j) = some v) : olds = cs := by
  have hlen : olds.length = cs.length := by have := hc.1; omega
  refine List.ext_getElem? fun j => ?_
  by_cases hj : j < olds.length
  · have hx : 0 < xs.length := by omega
    obtain ⟨ad, e, _⟩ := h 0 hx
    have h1 := ho ad e j _ (List.getElem?_eq_getElem hj)
    have h2 := cell_below b (hcells ad e j _ (List.getElem?_eq_getElem (by omega : j < cs.length)))
    rw [h1] at h2
    rw [List.getElem?_eq_getElem hj, List.getElem?_eq_getElem (by omega : j < cs.length)]
    exact h2
  · rw [List.getElem?_eq_none (by omega), List.getElem?_eq_none (by omega)]
theorem append_kept {W w1 wc w2 wr : World} {T cap safe c c' k' : Nat} {xs : List Thing} {A A' B' : Option Addr} {l : List UInt8} {S : List Nat} (h : IsTape W T cap xs safe A c) (b1 : Below W.heap.size W w1) (h2 : IsTape w2 T cap (xs ++ [(false, l)]) safe A' c')
    (bc : Below w1.heap.size w1 wc) (hB : BytesOut wc T B' k' l) (hf : ∀ bd, B' = some bd → w1.heap.size ≤ bd.block) (hp : PutRow wc w2 A xs.length A' (.bool false) (.slice B' l.length k')) (t2 : Touch [T] wc w2)
    (ts : Touch S w2 wr) (hS : ∀ g ∈ S, W.heap.size ≤ g ∧ g < w1.heap.size) : IsTape wr T cap (xs ++ [(false, l)]) safe A' c' := by
  obtain ⟨g, olds, tail, rfl, hg, hl, ho, hrow⟩ := hp
  obtain ⟨cs, hcs, hcells⟩ := Cells.of h.items
  have hTW := h.lt
  have bW := below_trans b1 bc
  obtain rfl := olds_unique h.items hcs hcells bW hl ho
  have hT : wr.heap[T]? = w2.heap[T]? := ts.block T h2.lt (fun hm => by have := (hS T hm).1; omega)
  have hgr : wr.heap[g]? = w2.heap[g]? := ts.block g (Array.getElem?_eq_some_iff.1 hrow).1 (fun hm => by have := (hS g hm).2; have := bc.size; omega)
  have r2 : Rest T W w2 := (Rest.below bW).trans bW.size (rest_touch t2)
  have rr : Rest T W wr := fun b hb hbT => (ts.block b (by have := bW.size; have := t2.size; omega) (fun hm => by have := (hS b hm).1; omega)).trans (r2 b hb hbT)
  have hBr : BytesOut wr T B' k' l := by
    refine ⟨⟨hB.1.1, fun i hi => ?_⟩, hB.2⟩
    obtain ⟨ad, e, hc⟩ := hB.1.2 i hi
    have hlt := World.block_lt_of_cell? wc _ hc
    rw [add_block] at hlt
    have h3 := (World.cell?_of_block (w := wc) (w' := w2) (a := ad.add i) (by rw [add_block]; exact t2.block _ hlt (by simpa using hB.2.2 (by rintro rfl; simp [bytesV] at hi) ad e))).trans hc
    refine ⟨ad, e, (World.cell?_of_block (w := w2) (w' := wr) (a := ad.add i) (by rw [add_block]; exact ts.block _ (by have := t2.size; omega) (fun hm => by have := (hS _ hm).2; have := hf ad e; omega))).trans h3⟩
  have hcy := (hcs.keep rr).snoc (b := false) hBr
  refine ⟨hT.trans h2.blk, items_of_cells hcy (fun j v hj => ?_) (by have := bW.size; omega), h2.nil, h2.fits, h2.small, h2.safe, h2.room⟩
  rw [cell_of_row wr g j _ _ _ (hgr.trans hrow)]
  have hlt := (List.getElem?_eq_some_iff.1 hj).1
  rw [Array.getElem?_append_left (by simpa using hlt)]
  simpa using hj
end Go.Proofs.Ythieemfcmehdiaa
