/- Items of a tape: a row of the call's own, whose bytes are its own. -/
import Derived.Test.YthieemfcmehdiaaIter
namespace Go.Proofs.Ythieemfcmehdiaa
open Go.RowKit Go.Shelf
attribute [local go_sem] Oper.semAt_some

/-- what turns no cells -/
theorem reads_own {W W' : World} {row : Option Nat} {A : Option Addr} {l : List Value} (h : Reads W A l) (hg : W.grownBy W' row) (hr : ∀ r, row = some r → ∃ o : Obj, W.heap[r]? = some o ∧ o.isCells = false) : Reads W' A l :=
  ⟨h.1, fun i hi => by obtain ⟨ad, e, hc⟩ := h.2 i hi; exact ⟨ad, e, cell_kept hc hg hr⟩⟩
theorem block_own {W W' : World} {row : Option Nat} {b : Nat} {cs : Array Value} {t : TypeId} {fr : Nat × Nat} (h : W.heap[b]? = some (.cells cs t fr)) (hg : W.grownBy W' row) (hr : ∀ r, row = some r → ∃ o : Obj, W.heap[r]? = some o ∧ o.isCells = false) : W'.heap[b]? = some (.cells cs t fr) :=
  (hg.block b (Array.getElem?_eq_some_iff.1 h).1 (fun e => by obtain ⟨o, ho, hc⟩ := hr b e.symm; rw [h] at ho; cases ho; cases hc)).trans h
theorem tape_own {W W' : World} {row : Option Nat} {T cap safe c : Nat} {xs : List Thing} {A : Option Addr} (h : IsTape W T cap xs safe A c) (hg : W.grownBy W' row) (hr : ∀ r, row = some r → ∃ o : Obj, W.heap[r]? = some o ∧ o.isCells = false) : IsTape W' T cap xs safe A c :=
  ⟨block_own h.blk hg hr, fun i hi => by
    obtain ⟨ad, e, ho, c0, B, k, c1, hb⟩ := h.items i hi
    exact ⟨ad, e, ho, cell_kept c0 hg hr, B, k, cell_kept c1 hg hr, reads_own hb.1 hg hr, hb.2⟩, h.nil, h.fits, h.small, h.safe, h.room⟩
theorem row_own {W W' : World} {row : Option Nat} {base n size : Nat} {e : TypeId} {v : Value} {xs : List Value} (h : W.ownsRow base e size v n xs) (hg : W.grownBy W' row) (hr : ∀ r, row = some r → ∃ o : Obj, W.heap[r]? = some o ∧ o.isCells = false) : W'.ownsRow base e size v n xs := by
  refine ⟨h.1, ?_⟩
  rcases h.2 with hn | ⟨g, cap, cur, rfl, hb, hgg, rest⟩
  · exact .inl hn
  · exact .inr ⟨g, cap, cur, rfl, hb, block_own hgg hg hr, rest⟩

theorem info44' : (Try.prog.info? 44).map (fun i => (i.zero, i.size, i.bytes)) = some (some (.agg #[.bool false, .slice none 0 0]), 2, 32) := by kernel_rfl
theorem own_slice {w : World} {base n size : Nat} {e : TypeId} {v : Value} {xs : List Value} (h : w.ownsRow base e size v n xs) : ∃ A c, v = .slice A n c := by
  rcases h.2 with ⟨rfl, rfl⟩ | ⟨g, cap, cur, rfl, _⟩
  · exact ⟨none, 0, rfl⟩
  · exact ⟨_, _, rfl⟩
/-- the headers of items, as cells -/
def heads (gs : List Got) : List Value := gs.flatMap fun x => [.bool x.t.1, .slice x.B x.t.2.length x.c]
theorem heads_snoc (gs : List Got) (x : Got) : heads (gs ++ [x]) = heads gs ++ [.bool x.t.1, .slice x.B x.t.2.length x.c] := by simp [heads]
theorem heads_length (gs : List Got) : (heads gs).length = gs.length * 2 := by
  induction gs with
  | nil => rfl
  | cons x gs ih => simp only [heads, List.flatMap_cons, List.length_append, List.length_cons, List.length_nil] at *; omega
/-- an item's bytes lie in new memory -/
def GotAt (W : World) (base : Nat) (x : Got) : Prop := Reads W x.B (bytesV x.t.2) ∧ ((x.B = none → x.c = 0) ∧ x.t.2.length ≤ x.c) ∧ ∀ bd, x.B = some bd → base ≤ bd.block ∧ ∃ cs, W.heap[bd.block]? = some (.cells cs 5 (0, 0))
theorem GotAt.own {W W' : World} {row : Option Nat} {base : Nat} {x : Got} (h : GotAt W base x) (hg : W.grownBy W' row) (hr : ∀ r, row = some r → ∃ o : Obj, W.heap[r]? = some o ∧ o.isCells = false) : GotAt W' base x :=
  ⟨reads_own h.1 hg hr, h.2.1, fun bd e => ⟨(h.2.2 bd e).1, by obtain ⟨cs, hc⟩ := (h.2.2 bd e).2; exact ⟨cs, block_own hc hg hr⟩⟩⟩
theorem GotAt.touch {W W' : World} {S : List Nat} {base : Nat} {x : Got} (h : GotAt W base x) (t : Touch S W W') (hS : ∀ k ∈ S, ∀ cs, W.heap[k]? ≠ some (.cells cs 5 (0, 0))) : GotAt W' base x := by
  have hb : ∀ bd, x.B = some bd → W'.heap[bd.block]? = W.heap[bd.block]? := fun bd e => by
    obtain ⟨cs, hc⟩ := (h.2.2 bd e).2
    exact t.block _ (Array.getElem?_eq_some_iff.1 hc).1 (fun hk => hS _ hk cs hc)
  refine ⟨⟨h.1.1, fun i hi => ?_⟩, h.2.1, fun bd e => ⟨(h.2.2 bd e).1, by obtain ⟨cs, hc⟩ := (h.2.2 bd e).2; exact ⟨cs, (hb bd e).trans hc⟩⟩⟩
  obtain ⟨ad, e, hc⟩ := h.1.2 i hi
  exact ⟨ad, e, (World.cell?_of_block (w := W) (by rw [add_block]; exact hb ad e)).trans hc⟩
/-- a row of items of the call's own -/
def ListIs (W : World) (e : TypeId) (base : Nat) (v : Value) (xs : List Thing) : Prop :=
  ∃ gs : List Got, gs.map (·.t) = xs ∧ W.ownsRow base e 2 v gs.length (heads gs) ∧ ∀ x ∈ gs, GotAt W base x
/-- out so far, in its box -/
def Outs (w : World) (O base : Nat) (xs : List Thing) (pre : List Got) (W : World) : Prop :=
  ∃ v, W.heap[O]? = some (.cells #[v] 36 (0, 0)) ∧ W.ownsRow base 44 2 v pre.length (heads pre) ∧ (∀ x ∈ pre, GotAt W base x) ∧ pre.map (·.t) = xs.take pre.length ∧ pre.length ≤ xs.length ∧ Below w.heap.size w W
theorem outs_own {w : World} {O base : Nat} {xs : List Thing} {pre : List Got} {W W' : World} {row : Option Nat} {B : Nat} (hB : w.heap.size ≤ B) (h : Outs w O base xs pre W) (hg : W.grownBy W' row) (hr : ∀ r, row = some r → B ≤ r ∧ ∃ o : Obj, W.heap[r]? = some o ∧ o.isCells = false) : Outs w O base xs pre W' := by
  have hr' : ∀ r, row = some r → ∃ o : Obj, W.heap[r]? = some o ∧ o.isCells = false := fun r e => (hr r e).2
  obtain ⟨v, h1, h2, h3, h4, h5, h6⟩ := h
  exact ⟨v, block_own h1 hg hr', row_own h2 hg hr', fun x hx => (h3 x hx).own hg hr', h4, h5, ownFrom_below (β := Unit) (B := B) (Nat.le_refl _) hB () W W' row h6 hg hr⟩
/-- a round's frame behind the assignment to the loop's variables -/
def roundFrame (T O X : Nat) (x : Got) : Act :=
  { tmps := #[.pointer (some ⟨T, 0, none⟩), undef, .slice none 0 0, .pointer (some ⟨O, 0, none⟩), undef, .pointer (some ⟨X, 0, none⟩), .pointer (some ⟨T, 0, none⟩), .func (.func 31) #[] #[.pointer (some ⟨O + 1, 0, none⟩)], .int .i64 x.k, .agg #[.bool x.t.1, .slice x.B x.t.2.length x.c], undef, undef, undef, undef, undef], defers := [] }
set_option maxHeartbeats 2000000 in
set_option maxRecDepth 100000 in
theorem items_in {w : World} {T cap safe c : Nat} {xs : List Thing} {A : Option Addr} (h : IsTape w T cap xs safe A c) :
    CallsIn Fence.wide 9 Try.prog 14 #[.pointer (some ⟨T, 0, none⟩)] w fun e w' => ∃ v, e = .returned v ∧ ListIs w' 44 w.heap.size v xs ∧ Below w.heap.size w w' := by
  have H := hid h
  clear h
  refine callsIn_of_wp_marks Try.func14 rfl trivial ?_ rfl
  simp only [Try.ntmps14, List.size_toArray, List.length_cons, List.length_nil, Nat.reduceAdd, Nat.reduceSub, Array.replicate_succ, Array.replicate_zero, List.push_toArray, List.append_toArray, List.nil_append, List.cons_append]
  gi_wp2_with fail
  refine ⟨trivial, ?_⟩
  refine (callsIn_wide.2 (all_any (some ⟨T, 0, none⟩) _)).mono ?_
  rintro e w3 ⟨rfl, rfl⟩
  gi_wp2_with fail
  obtain ⟨O, hO⟩ : ∃ O, w.heap.size = O := ⟨_, rfl⟩
  have g0 := block_new w (.cells #[.slice none 0 0] 36)
  have g1 := ((below_new (w.alloc (.cells #[.slice none 0 0] 36)) (.cells #[.pointer (some ⟨T, 0, none⟩)] 23)).block _ (by simp)).trans g0
  have k1 := (cell_one (w.alloc (.cells #[.slice none 0 0] 36)) (.pointer (some ⟨T, 0, none⟩)) 23).1
  obtain ⟨W3, hW3⟩ : ∃ W, (w.alloc (.cells #[.slice none 0 0] 36)).alloc (.cells #[.pointer (some ⟨T, 0, none⟩)] 23) = W := ⟨_, rfl⟩
  have b3 : Below w.heap.size w W3 := by rw [← hW3]; exact (below_new _ _).alloc (by simp) _
  have z3 : W3.heap.size = w.heap.size + 2 := by rw [← hW3]; simp
  rw [World.size_alloc] at k1
  rw [hW3] at g1 k1 ⊢
  rw [hO] at g1 k1 z3 ⊢
  have hI0 : Outs w O (O + 2) xs [] W3 := ⟨_, g1, World.ownsRow_nil _ _ _ _, (fun x hx => by cases hx), rfl, Nat.zero_le _, b3⟩
  have HI0 := hid hI0
  have HT3 := hid (H.out.below b3)
  have K1 := hid k1
  have Z3 := hid z3
  have B3 := hid b3
  have HO := hid hO
  clear g0 g1 k1 b3 z3 hI0 hW3 hO
  refine rangeFunc_V (by decide) (gf := 31) (lb := #[.pointer (some ⟨O + 1, 0, none⟩)]) rfl (enters_of Try.func31 (by kernel_rfl) rfl) (all1_iter 8 (by decide) (T := T) (cap := cap) (safe := safe) (c := c) (xs := xs) (A := A) (O + 1) (O + 2)) (fun _ => rfl)
    (fun pre W => Outs w O (O + 2) xs pre W ∧ Home T cap xs safe A c (O + 1) (O + 2) W)
    (fun _ _ _ => False)
    (fun pre x a' W => (Outs w O (O + 2) xs pre W ∧ Home T cap xs safe A c (O + 1) (O + 2) W) ∧ (x.k = pre.length ∧ xs[pre.length]? = some x.t ∧ GotAt W (O + 2) x) ∧ ∃ X, a' = roundFrame T O X x ∧ W.heap[X]? = some (.cells #[.bool x.t.1, .slice x.B x.t.2.length x.c] 44 (0, 0)))
    ?o1 (fun _ _ _ _ _ hs _ _ => hs.elim) ?o2 (fun pre W hI => hI.2) ⟨HI0.out, HT3.out, K1.out, by rw [Z3.out]; exact Nat.le_refl _⟩ ?assign ?body ?done (fun _ _ _ _ _ _ h => h.elim)
  case assign =>
    intro l pre x W hI hV
    have HI := hid hI
    have HV := hid hV
    clear hI hV
    simp [Got.enc]
    gi_wp2
    have hg := World.grownBy_alloc W (.cells #[.bool x.t.1, .slice x.B x.t.2.length x.c] 44) none
    have hr : ∀ r, (none : Option Nat) = some r → W3.heap.size ≤ r ∧ ∃ o : Obj, W.heap[r]? = some o ∧ o.isCells = false := fun r e => by cases e
    have hr' : ∀ r, (none : Option Nat) = some r → ∃ o : Obj, W.heap[r]? = some o ∧ o.isCells = false := fun r e => by cases e
    exact ⟨(KeepsOthers.alloc W _).from _, ⟨outs_own (by rw [HO.out, Z3.out]; omega) HI.out.1 hg hr, tape_own HI.out.2.1 hg hr', cell_kept HI.out.2.2.1 hg hr', Nat.le_trans HI.out.2.2.2 hg.size⟩, ⟨HV.out.1, HV.out.2.1, GotAt.own HV.out.2.2 hg hr'⟩, W.heap.size, rfl, block_new _ _⟩
  case o1 =>
    rintro pre W W' row ⟨h1, h2⟩ hg hr
    have hr' : ∀ r, row = some r → ∃ o : Obj, W.heap[r]? = some o ∧ o.isCells = false := fun r e => (hr r e).2
    exact ⟨outs_own (by rw [HO.out, Z3.out]; omega) h1 hg hr, tape_own h2.1 hg hr', cell_kept h2.2.1 hg hr', Nat.le_trans h2.2.2 hg.size⟩
  case o2 =>
    rintro pre x a' u W W' row ⟨⟨h1, h2⟩, h3, X, rfl, hX⟩ hg hr
    have hr' : ∀ r, row = some r → ∃ o : Obj, W.heap[r]? = some o ∧ o.isCells = false := fun r e => (hr r e).2
    exact ⟨⟨outs_own (by rw [HO.out, Z3.out]; omega) h1 hg hr, tape_own h2.1 hg hr', cell_kept h2.2.1 hg hr', Nat.le_trans h2.2.2 hg.size⟩, ⟨h3.1, h3.2.1, h3.2.2.own hg hr'⟩, X, rfl, block_own hX hg hr'⟩
  case body =>
    rintro l pre x a' W ⟨⟨h1, h2⟩, h3, X, rfl, hX⟩
    obtain ⟨v, hbox, hown, hgot, hpre, hlen, hbel⟩ := h1
    obtain ⟨hT, hcp, hbase⟩ := h2
    have p3 : W.cell? ⟨O, 0, none⟩ = some v := (cell_of_row W O 0 _ _ _ hbox).trans rfl
    have q3 := frozen_of_row W O 0 _ _ hbox
    have p5 : W.cell? ⟨X, 0, none⟩ = some (.bool x.t.1) := (cell_of_row W X 0 _ _ _ hX).trans rfl
    have p6 : W.cell? ⟨X, 1, none⟩ = some (.slice x.B x.t.2.length x.c) := (cell_of_row W X 1 _ _ _ hX).trans rfl
    have HBOX := hid hbox
    have HOWN := hid hown
    have HGOT := hid hgot
    have HPRE := hid hpre
    have HBEL := hid hbel
    have HT := hid hT
    have HCP := hid hcp
    have H3 := hid h3
    have HXX := hid hX
    have hbs : O + 2 ≤ W.heap.size := hbase
    have hn8 : pre.length ≤ 2097152 := by
      have h1 := hT.fits
      have h2 := hT.small
      have h3 := used_len xs
      omega
    clear hbox hown hgot hpre hbel hT hcp h3 hX hbase
    unfold roundFrame
    obtain ⟨i4, hi4, hz0, hz1, hz2⟩ := info_parts info44'
    have Hi4 := hid hi4
    have Hz0 := hid hz0
    have Hz1 := hid hz1
    have Hz2 := hid hz2
    clear hi4 hz0 hz1 hz2
    gi_wp2_with (gi_at_builtin; refine wpListIn_append_own _ rfl (.tmp 10) (.tmp 12) 36 rfl (O + 2) 44 i4 _ 2 32 Try.underlying36 Hi4.out Hz0.out Hz1.out Hz2.out rfl (by decide) v pre.length (heads pre) rfl (HOWN.out.alloc _) ⟨W.heap.size, 0, none⟩ 1 1 [.bool x.t.1, .slice x.B x.t.2.length x.c] rfl rfl ?c1 ?c2 ?c3 ?c4 ?c5 ?_)
    case c1 =>
      intro j u hj
      match j with
      | 0 => simp at hj; subst hj; rw [add_plain', cell_new]; rfl
      | 1 => simp at hj; subst hj; rw [add_plain', cell_new]; rfl
      | j + 2 => simp at hj
    case c2 =>
      intro u hu
      simp at hu
      rcases hu with rfl | rfl <;> rfl
    case c3 => unfold maxLen; omega
    case c4 => omega
    case c5 => simp; omega
    intro v1 w1 o1 g1 _
    obtain ⟨A1, k1, hv1⟩ := own_slice o1
    have hrow : ∀ k ∈ v.ownBlock.toList, O + 2 ≤ k ∧ ∃ cur, (W.alloc (.cells #[.bool x.t.1, .slice x.B x.t.2.length x.c] 44)).heap[k]? = some (.cells cur 44 (0, 0)) := by
      intro k hk
      have hk' : v.ownBlock = some k := by simpa using hk
      rcases (HOWN.out.alloc (.cells #[.bool x.t.1, .slice x.B x.t.2.length x.c] 44)).2 with ⟨rfl, _⟩ | ⟨g, cap', cur, rfl, hb, hg, _⟩
      · cases hk'
      · simp [Value.ownBlock] at hk'; subst hk'; exact ⟨hb, cur, hg⟩
    have tg := Touch.grown g1
    have hOk : O ∉ v.ownBlock.toList := fun hk => by have := (hrow O hk).1; omega
    have s3 : w1.cell? ⟨O, 0, none⟩ = some v := (World.cell?_of_block (tg.block O (by simp; omega) hOk)).trans (cell_past _ p3)
    have hbO : w1.heap[O]? = some (.cells #[v] 36 (0, 0)) := (tg.block O (by simp; omega) hOk).trans (((below_new W _).block O (by omega)).trans HBOX.out)
    have f3 := frozen_of_row w1 O 0 _ _ hbO
    have O1 := hid o1
    have TG := hid tg
    have HROW := hid hrow
    have HOK := hid hOk
    have G1 := hid g1
    have HBO := hid hbO
    subst hv1
    clear o1 g1 tg hrow hOk p3 q3 p5 p6 hbO
    gi_wp2
    have hb9 := heap_setCell_same w1 O 0 _ 36 (.slice A1 (pre.length + 1) k1) HBO.out
    have tall : Touch (O :: v.ownBlock.toList) W (w1.setCell ⟨O, 0, none⟩ (.slice A1 (pre.length + 1) k1)) := (((Touch.of_below (below_new W _) (O :: v.ownBlock.toList)).trans (TG.out.mono (S' := O :: v.ownBlock.toList) (fun _ h => List.mem_cons_of_mem _ h)) (fun _ h => .inl h)).trans (Touch.setCell w1 ⟨O, 0, none⟩ (.slice A1 (pre.length + 1) k1)) (by simp))
    have hcellsS : ∀ k ∈ O :: v.ownBlock.toList, O ≤ k ∧ ∀ cs, W.heap[k]? ≠ some (.cells cs 5 (0, 0)) := by
      intro k hk
      rcases List.mem_cons.1 hk with rfl | hk
      · exact ⟨Nat.le_refl _, fun cs h => by rw [HBOX.out] at h; cases h⟩
      · obtain ⟨h1, cur, h2⟩ := HROW.out k hk
        refine ⟨by omega, fun cs h => ?_⟩
        have hlt : k < W.heap.size := (Array.getElem?_eq_some_iff.1 h).1
        rw [(below_new W _).block k hlt, h] at h2
        cases h2
    have ⟨hk1, hk2, hk3⟩ := H3.out
    refine ⟨?_, ⟨.slice A1 (pre.length + 1) k1, hb9, ?_, ?_, ?_, ?_, ?_⟩, ?_, ?_, ?_⟩
    · refine KeepsOthers.from (((KeepsOthers.alloc W _).trans (KeepsOthers.of_grownBy G1.out ?_)).trans (KeepsOthers.setCell _ _ _)) _
      intro j o hj ho
      obtain ⟨_, cur, h2⟩ := HROW.out j (by simpa using hj)
      rw [ho] at h2
      cases h2
      rfl
    · rw [List.length_append, heads_snoc]
      exact own_kept O1.out (Touch.setCell w1 ⟨O, 0, none⟩ (.slice A1 (pre.length + 1) k1)) (fun g hg => by have := (own_block_lt O1.out hg).1; simp; omega)
    · intro y hy
      rcases List.mem_append.1 hy with hy | hy
      · exact (HGOT.out y hy).touch tall (fun k hk => (hcellsS k hk).2)
      · obtain rfl := List.mem_singleton.1 hy
        exact hk3.touch tall (fun k hk => (hcellsS k hk).2)
    · rw [List.map_append, HPRE.out, List.length_append]
      obtain ⟨hlt, hxe⟩ := List.getElem?_eq_some_iff.1 hk2
      show xs.take pre.length ++ [x.t] = xs.take (pre.length + 1)
      rw [List.take_succ_eq_append_getElem hlt, hxe]
    · rw [List.length_append]
      exact (List.getElem?_eq_some_iff.1 hk2).1
    · exact Touch.below HBEL.out (by rw [HO.out]; omega) tall (fun k hk => by rw [HO.out]; exact (hcellsS k hk).1)
    · exact H.out.below (Touch.below HBEL.out (by rw [HO.out]; omega) tall (fun k hk => by rw [HO.out]; exact (hcellsS k hk).1))
    · exact (World.cell?_of_block (w := W) (tall.block (O + 1) (by omega) (fun hk => by
        rcases List.mem_cons.1 hk with e | hk
        · omega
        · have := (HROW.out _ hk).1; omega))).trans HCP.out
    · exact Nat.le_trans hbs tall.size
  case done =>
    rintro D ys W hD hS ⟨⟨v, hbox, hown, hgot, hpre, hlen, hbel⟩, hT, _⟩ hK
    obtain ⟨A1, k1, rfl⟩ := own_slice hown
    have p3 : W.cell? ⟨O, 0, none⟩ = some (.slice A1 ys.length k1) := (cell_of_row W O 0 _ _ _ hbox).trans rfl
    have hmap : ys.map (·.t) = xs := by rw [hpre, hS, List.take_length]
    have HOWN := hid hown
    have HGOT := hid hgot
    have HBEL := hid hbel
    have HMAP := hid hmap
    have HK := hid hK
    have HD := hid hD
    clear hbox hown hgot hpre hbel hT hK hD hmap
    gi_wp2
    refine ⟨by simp, .inl ⟨_, _, rfl, run_takeDeferred HK.out, ?_⟩⟩
    have hg := grownBy_putObj' W D (.deferred none)
    have hr : ∀ r, some D = some r → ∃ o : Obj, W.heap[r]? = some o ∧ o.isCells = false := fun r e => by cases e; exact ⟨_, HK.out, rfl⟩
    refine ⟨.slice A1 ys.length k1, by simp [results, Try.f14, go_sem, hS], .slice A1 ys.length k1, rfl, ⟨ys, HMAP.out, own_mono (row_own HOWN.out hg hr) (by rw [HO.out]; omega), fun x hx => ?_⟩, HBEL.out.trans (belowK_b (w := w) (Nat.le_refl _) W D _ _ (by have := HD.out; have := Z3.out; have := HO.out; omega) HK.out rfl rfl)⟩
    have hx' := (HGOT.out x hx).own hg hr
    exact ⟨hx'.1, hx'.2.1, fun bd e => ⟨by have := (hx'.2.2 bd e).1; rw [HO.out]; omega, (hx'.2.2 bd e).2⟩⟩
theorem items_any {w : World} {T cap safe c : Nat} {xs : List Thing} {A : Option Addr} (h : IsTape w T cap xs safe A c) :
    Calls Try.prog 14 #[.pointer (some ⟨T, 0, none⟩)] w fun e w' => ∃ v, e = .returned v ∧ ListIs w' 44 w.heap.size v xs ∧ Below w.heap.size w w' := callsIn_wide.1 (items_in h)
end Go.Proofs.Ythieemfcmehdiaa
