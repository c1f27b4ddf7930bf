/- does: Append. -/
import Derived.Test.YthieemfcmehdiaaKept
namespace Go.Proofs.Ythieemfcmehdiaa
open Go.RowKit
set_option linter.unusedSimpArgs false
set_option linter.unusedVariables false
/-- bytes of the call's own, whatever they are now -/
def OwnBytes (w : World) (lo hi : Nat) (A : Option Addr) (n : Nat) : Prop := n = 0 ∨ ∃ (g : Nat) (cur : Array Value), A = some ⟨g, 0, none⟩ ∧ lo ≤ g ∧ g < hi ∧ w.heap[g]? = some (.cells cur 5 (0, 0)) ∧ n ≤ cur.size ∧ ∀ j, j < n → ∃ y : Int, cur[j]? = some (.int .u8 y)
theorem OwnBytes.some {w : World} {lo hi n : Nat} {A : Option Addr} (h : OwnBytes w lo hi A n) (hn : n ≠ 0) : ∃ (g : Nat) (cur : Array Value), A = Option.some ⟨g, 0, none⟩ ∧ lo ≤ g ∧ g < hi ∧ w.heap[g]? = Option.some (.cells cur 5 (0, 0)) ∧ n ≤ cur.size ∧ ∀ j, j < n → ∃ y : Int, cur[j]? = Option.some (.int .u8 y) := by
  rcases h with h | h
  · exact absurd h hn
  · exact h
theorem OwnBytes.keep {w w' : World} {lo hi n : Nat} {A : Option Addr} {S : List Nat} (h : OwnBytes w lo hi A n) (t : Touch S w w') (hS : ∀ x ∈ S, x < lo ∨ hi ≤ x) : OwnBytes w' lo hi A n := by
  rcases h with h | ⟨g, cur, e, h1, h2, h3, h4⟩
  · exact .inl h
  · exact .inr ⟨g, cur, e, h1, h2, (t.block g (Array.getElem?_eq_some_iff.1 h3).1 (fun hm => by have := hS g hm; omega)).trans h3, h4⟩
theorem own_bytes {w : World} {base c1 : Nat} {v : Value} {A1 : Option Addr} {l : List UInt8} (o : w.ownsRow base 5 1 v l.length (bytesV l)) (hv : v = .slice A1 l.length c1) : OwnBytes w base w.heap.size A1 l.length := by
  subst hv
  rcases o.2 with ⟨e, h0⟩ | ⟨g, cap, cur, e, hb, hg, hnc, _, hs, ht⟩
  · exact .inl h0
  · cases e
    have hcur : l.length ≤ cur.size := by omega
    refine .inr ⟨g, cur, rfl, hb, (Array.getElem?_eq_some_iff.1 hg).1, hg, hcur, fun j hj => ?_⟩
    have h1 : (cur.toList.take (l.length * 1))[j]? = (bytesV l)[j]? := by rw [ht]
    rw [List.getElem?_take_of_lt (by omega)] at h1
    refine ⟨(l[j].toNat : Int), ?_⟩
    rw [← Array.getElem?_toList, h1]
    simp [bytesV, List.getElem?_eq_getElem hj]
theorem own_set {w : World} {lo hi n g : Nat} {cur : Array Value} (h : w.heap[g]? = some (.cells cur 5 (0, 0))) (h1 : lo ≤ g) (h2 : g < hi) (h3 : n ≤ cur.size) (h4 : ∀ j, j < n → ∃ y : Int, cur[j]? = some (.int .u8 y)) (i : Nat) (z : Int) :
    OwnBytes (w.setCell ⟨g, i, none⟩ (.int .u8 z)) lo hi (some ⟨g, 0, none⟩) n := by
  have hs := heap_setCell_same w g i _ 5 (.int .u8 z) h
  refine .inr ⟨g, _, rfl, h1, h2, hs, by simpa using h3, fun j hj => ?_⟩
  by_cases hij : i = j
  · subst hij; exact ⟨z, by simp [Array.getElem?_setIfInBounds]; omega⟩
  · obtain ⟨y, hy⟩ := h4 j hj
    exact ⟨y, by rw [Array.getElem?_setIfInBounds_ne hij]; exact hy⟩
theorem IsTape.keep_new {w w1 w2 : World} {T cap safe c : Nat} {xs : List Thing} {A : Option Addr} {S : List Nat} (h : IsTape w T cap xs safe A c) (b : Below w.heap.size w w1) (t : Touch S w1 w2) (hS : ∀ g ∈ S, w.heap.size ≤ g) : IsTape w2 T cap xs safe A c :=
  h.below (Touch.below b b.size t hS)
set_option maxHeartbeats 8000000 in
set_option maxRecDepth 100000 in
theorem does_append_yes {w : World} {T cap safe c c2 : Nat} {xs : List Thing} {A A2 : Option Addr} (h : IsTape w T cap xs safe A c) (hr : RefIs w T cap xs safe A2 c2) (nn mm : Int) (B : Option Addr) (k : Nat) (l : List UInt8) (hBO : BytesOut w T B k l) (hl200 : l.length ≤ 200) (hroom : used xs + (8 + l.length) ≤ cap) :
    Calls Try.prog 12 #[.pointer (some ⟨T, 0, none⟩), refV cap xs.length safe A2 c2, .agg #[.int .i64 0, .int .i64 nn, .int .i64 mm, .slice B l.length k]] w fun e w' => Did w w' T cap (xs ++ [(false, l)]) safe e := by
  have HBO0 := hid hBO
  clear hBO
  have hl := hr.len
  have hsl := h.safe
  have lt := h.lt
  obtain ⟨W, hW⟩ : ∃ W, (((w.alloc (.cells #[.int .i64 cap, .slice A2 xs.length c2, .int .i64 safe] 29)).alloc (.cells #[.int .i64 0, .int .i64 nn, .int .i64 mm, .slice B l.length k] 32)).alloc (.cells #[.int .i64 0, .slice none 0 0, .int .i64 0] 29)) = W := ⟨_, rfl⟩
  have bx := boxes_new (cap := cap) (n := xs.length) (safe := safe) (A := A2) (c := c2) (vb := 0) (nn := nn) (mm := mm) (B := B) (lb := l.length) (k := k) w
  rw [hW] at bx
  have bW : Below w.heap.size w W := by rw [← hW]; exact ((below_new w _).alloc (by simp) _).alloc (by simp; omega) _
  have H0 := hid h
  have R0 := hid hr
  have HT := hid (h.below bW)
  have HR := hid (hr.keep (Rest.below bW))
  have HW := hid hW
  have BW := hid bW
  have BX0 := hid bx
  clear h hr hW bW bx
  go_enter Try.func12, Try.ntmps12
  go_upto_region 1 with (fail)
  have hw := HW.out
  rw [hw]
  obtain ⟨G, hG⟩ : ∃ G, w.heap.size = G := ⟨_, rfl⟩
  have BX := BX0
  rw [hG] at BX lt ⊢
  have HGG := hid hG
  have c0 := BX.out.d0
  clear hw hG HW BX0
  have d3 := cell_past (.cells #[] 5) BX.out.d3
  have HBO := hid (HBO0.out.keep (Rest.below BW.out))
  have hTW : T < W.heap.size := HT.out.lt
  go_wp2_with (at_builtin; refine wpList_append_reads rfl (.tmp 20) (.tmp 22) 30 5 (.int .u8 0) 1 rfl Try.underlying30 info5 rfl W.heap.size _ 0 [] rfl (World.ownsRow_made W #[] 0 (Nat.le_refl _) (by decide) rfl) B l.length (bytesV l) k rfl ?c1 ?c2 ?c3 ?c4 ?c5 ?c6 ?c7 ?_)
  case c1 => simp [bytesV]
  case c2 => exact HBO.out.1.below (below_new _ _)
  case c3 => exact HBO.out.2.1.1
  case c4 => intro u hu; simp [bytesV] at hu; obtain ⟨y, _, rfl⟩ := hu; rfl
  case c5 => unfold maxLen; omega
  case c6 => omega
  case c7 => simp
  intro v1 w1 o1 g1 f1
  have b1 : Below W.heap.size W w1 := (below_new W (.cells #[] 5)).grown g1 (by simp) (by intro k hk; simp [Value.ownBlock] at hk; omega)
  have o1' : w1.ownsRow W.heap.size 5 1 v1 l.length (bytesV l) := by simpa using o1
  obtain ⟨A1, c1, hv, hr1, hn1, hb1⟩ := own_reads_at o1' (by omega)
  rw [bytesV_length] at hv
  have ow1 := own_bytes o1' hv
  rw [hv]
  have OW1 := hid ow1
  have HR1 := hid hr1
  have HN1 := hid hn1
  have B1 := hid b1
  have H1 := hid (HT.out.below b1)
  have bx1 := BX.out.keep (Touch.of_below b1 []) (by simp)
  have BX1 := hid bx1
  clear o1 g1 f1 b1 o1' hv hr1 hn1 hb1 ow1 bx1 c0 d3
  go_wp2_with fail
  refine (append_row H1.out A1 c1 l HR1.out HN1.out.1 hroom).mono ?_
  rintro e w2 ⟨rfl, A', c', h2, t2, wc, B', k', bc, hBc, hf, hp, tc⟩
  have KP : Hid (∀ wr : World, ∀ S : List Nat, Touch S w2 wr → (∀ g ∈ S, W.heap.size ≤ g ∧ g < w1.heap.size) → IsTape wr T cap (xs ++ [(false, l)]) safe A' c') := hid (fun wr S ts hS => append_kept HT.out B1.out h2 bc hBc hf hp tc ts hS)
  clear h2 bc hBc hf hp tc
  have T2 := hid t2
  have OW2 := hid (OW1.out.keep t2 (by intro x hx; simp at hx; omega))
  have bx2 := BX1.out.keep t2 (by intro x hx; simp at hx; omega)
  have BX2 := hid bx2
  clear t2 bx2
  go_wp2_with fail
  go_loopw [29] (fun i wr => ∃ j : Nat, j ≤ l.length ∧ i = .int .i64 j ∧ Hid (OwnBytes wr W.heap.size w1.heap.size A1 l.length) ∧ Hid (∃ S, Touch S w2 wr ∧ ∀ g ∈ S, W.heap.size ≤ g ∧ g < w1.heap.size)) (fun i _ => l.length - (intOf i).toNat)
  case atStart => exact ⟨0, by omega, rfl, OW2, hid ⟨[], Touch.refl _ _, by simp⟩⟩
  case round =>
    obtain ⟨j, hj, rfl, HO, HS⟩ := hrel
    obtain ⟨wo, rfl⟩ : ∃ wo : World, wo = wr := ⟨_, rfl⟩
    by_cases hlt : j < l.length
    · have dl : decide (j < l.length) = true := by simpa using hlt
      obtain ⟨g, cur, rfl, hg1, hg2, hgr, hgs, hgc⟩ := HO.out.some (by omega)
      obtain ⟨y, hy⟩ := hgc j hlt
      have q0 : wo.cell? ⟨g, j, none⟩ = some (.int .u8 y) := (cell_of_row wo _ j _ _ _ hgr).trans hy
      have qf : wo.frozen? ⟨g, j, none⟩ = false := frozen_of_row wo _ j _ _ hgr
      have hji : (j : Int) < (l.length : Int) := by omega
      have hj0 : (0 : Int) ≤ (j : Int) := by omega
      have HGR := hid hgr
      clear hy hgr
      go_wp2_with fail
      go_roundw
      case rel =>
        obtain ⟨S, ts, hS⟩ := HS.out
        exact ⟨j + 1, by omega, by go_num, hid (own_set HGR.out hg1 hg2 hgs hgc j _), hid ⟨g :: S, (ts.mono (fun x hx => List.mem_cons_of_mem _ hx)).trans (Touch.setCell wo ⟨g, j, none⟩ _) (by simp), by
          intro x hx
          rcases List.mem_cons.1 hx with rfl | hx
          · exact ⟨hg1, hg2⟩
          · exact hS x hx⟩⟩
      case measure => simp [intOf]; omega
    · have dl : decide (j < l.length) = false := by simpa using hlt
      obtain ⟨S, ts, hS⟩ := HS.out
      have H3 := hid (KP.out wo S ts hS)
      have t3 : Touch [T] W wo := ((Touch.of_below B1.out [T]).trans T2.out (by simp)).trans ts (fun x hx => .inr (hS x hx).1)
      have zlt := (Array.getElem?_eq_some_iff.1 BX.out.z).1
      have bx3 := BX2.out.keep ts (fun x hx => by have := (hS x hx).1; omega)
      have P3 := hid (HR.out.keep (rest_touch t3))
      have HB3 := hid (HBO.out.keep (rest_touch t3))
      have T3 := hid ((Touch.of_below BW.out [T]).trans t3 (by simp))
      have hT3 : T < wo.heap.size := H3.out.lt
      have BX3 := hid bx3
      have r0 := bx3.r0
      have r1 := bx3.r1
      have r2 := bx3.r2
      have e3 := bx3.d3
      clear ts hS t3 zlt bx3
      go_wp2_with fail
      refine (put_ref_yes P3.out hT3 false B k l HB3.out hroom).mono ?_
      rintro e w4 ⟨A9, c9, rfl, p4, b4⟩
      obtain ⟨mlen, hml⟩ : ∃ mlen, xs.length + 1 = mlen := ⟨_, rfl⟩
      rw [hml]
      have HML := hid hml
      have bx4 := BX3.out.keep (Touch.of_below b4 []) (by simp)
      have H4 := hid (H3.out.below b4)
      have P4 := hid p4
      have B4 := hid b4
      have BX4 := hid bx4
      clear p4 b4 bx4 r0 r1 r2 e3 hml
      go_upto_region 11 with (fail)
      have bb := below_new w4 (.cells #[.int .i64 cap, .slice A9 mlen c9, .int .i64 safe] 29)
      have T5 := hid ((T3.out.trans (Touch.of_below B4.out [T]) (by simp)).trans (Touch.of_below bb [T]) (by simp))
      have h5 := H4.out.below bb
      have p5 := P4.out.keep (Rest.below bb)
      have bx5 := BX4.out.keep (Touch.of_below bb []) (by simp)
      have q := block_new w4 (.cells #[.int .i64 cap, .slice A9 mlen c9, .int .i64 safe] 29)
      obtain ⟨W5, hW5⟩ : ∃ n, w4.alloc (.cells #[.int .i64 cap, .slice A9 mlen c9, .int .i64 safe] 29) = n := ⟨_, rfl⟩
      rw [hW5] at T5 h5 p5 bx5 q ⊢
      obtain ⟨g, hg⟩ : ∃ g, w4.heap.size = g := ⟨_, rfl⟩
      rw [hg] at q ⊢
      have q0 : W5.cell? ⟨g, 0, none⟩ = some (.int .i64 cap) := (cell_of_row W5 _ 0 _ _ _ q).trans rfl
      have q1 : W5.cell? ⟨g, 1, none⟩ = some (.slice A9 mlen c9) := (cell_of_row W5 _ 1 _ _ _ q).trans rfl
      have q2 : W5.cell? ⟨g, 2, none⟩ = some (.int .i64 safe) := (cell_of_row W5 _ 2 _ _ _ q).trans rfl
      have H5 := hid h5
      have P5 := hid p5
      have BX5 := hid bx5
      have z0 := bx5.z0
      have z1 := bx5.z1
      have z2 := bx5.z2
      have zf0 := bx5.zf 0
      have zf1 := bx5.zf 1
      have zf2 := bx5.zf 2
      clear bb h5 p5 bx5 q hW5 hg
      go_wp2_with fail
      have fin := did_end H5.out P5.out BX5.out.z (by rw [HGG.out]; exact Nat.le_refl _) (by rw [HGG.out]; exact lt) T5.out mlen (by have := HML.out; simp; omega)
      refine bodyPost_ret (results_cell_tmp rfl _ _ (G + 1 + 1) 29 _ (0, 0) _ rfl fin.1 Try.underlying29 rfl (by kernel_rfl)) rfl ?_
      exact fin.2
set_option maxHeartbeats 8000000 in
set_option maxRecDepth 100000 in
theorem does_append_no {w : World} {T cap safe c c2 : Nat} {xs : List Thing} {A A2 : Option Addr} (h : IsTape w T cap xs safe A c) (hr : RefIs w T cap xs safe A2 c2) (nn mm : Int) (B : Option Addr) (k : Nat) (l : List UInt8) (hBO : BytesOut w T B k l) (hl200 : l.length ≤ 200) (hroom : cap < used xs + (8 + l.length)) :
    Calls Try.prog 12 #[.pointer (some ⟨T, 0, none⟩), refV cap xs.length safe A2 c2, .agg #[.int .i64 0, .int .i64 nn, .int .i64 mm, .slice B l.length k]] w fun e w' => Did w w' T cap xs safe e := by
  have HBO0 := hid hBO
  clear hBO
  have hl := hr.len
  have hsl := h.safe
  have lt := h.lt
  obtain ⟨W, hW⟩ : ∃ W, (((w.alloc (.cells #[.int .i64 cap, .slice A2 xs.length c2, .int .i64 safe] 29)).alloc (.cells #[.int .i64 0, .int .i64 nn, .int .i64 mm, .slice B l.length k] 32)).alloc (.cells #[.int .i64 0, .slice none 0 0, .int .i64 0] 29)) = W := ⟨_, rfl⟩
  have bx := boxes_new (cap := cap) (n := xs.length) (safe := safe) (A := A2) (c := c2) (vb := 0) (nn := nn) (mm := mm) (B := B) (lb := l.length) (k := k) w
  rw [hW] at bx
  have bW : Below w.heap.size w W := by rw [← hW]; exact ((below_new w _).alloc (by simp) _).alloc (by simp; omega) _
  have H0 := hid h
  have R0 := hid hr
  have HT := hid (h.below bW)
  have HR := hid (hr.keep (Rest.below bW))
  have HW := hid hW
  have BW := hid bW
  have BX0 := hid bx
  clear h hr hW bW bx
  go_enter Try.func12, Try.ntmps12
  go_upto_region 1 with (fail)
  have hw := HW.out
  rw [hw]
  obtain ⟨G, hG⟩ : ∃ G, w.heap.size = G := ⟨_, rfl⟩
  have BX := BX0
  rw [hG] at BX lt ⊢
  have HGG := hid hG
  have c0 := BX.out.d0
  clear hw hG HW BX0
  have d3 := cell_past (.cells #[] 5) BX.out.d3
  have HBO := hid (HBO0.out.keep (Rest.below BW.out))
  have hTW : T < W.heap.size := HT.out.lt
  go_wp2_with (at_builtin; refine wpList_append_reads rfl (.tmp 20) (.tmp 22) 30 5 (.int .u8 0) 1 rfl Try.underlying30 info5 rfl W.heap.size _ 0 [] rfl (World.ownsRow_made W #[] 0 (Nat.le_refl _) (by decide) rfl) B l.length (bytesV l) k rfl ?c1 ?c2 ?c3 ?c4 ?c5 ?c6 ?c7 ?_)
  case c1 => simp [bytesV]
  case c2 => exact HBO.out.1.below (below_new _ _)
  case c3 => exact HBO.out.2.1.1
  case c4 => intro u hu; simp [bytesV] at hu; obtain ⟨y, _, rfl⟩ := hu; rfl
  case c5 => unfold maxLen; omega
  case c6 => omega
  case c7 => simp
  intro v1 w1 o1 g1 f1
  have b1 : Below W.heap.size W w1 := (below_new W (.cells #[] 5)).grown g1 (by simp) (by intro k hk; simp [Value.ownBlock] at hk; omega)
  have o1' : w1.ownsRow W.heap.size 5 1 v1 l.length (bytesV l) := by simpa using o1
  obtain ⟨A1, c1, hv, hr1, hn1, hb1⟩ := own_reads_at o1' (by omega)
  rw [bytesV_length] at hv
  have ow1 := own_bytes o1' hv
  rw [hv]
  have OW1 := hid ow1
  have HR1 := hid hr1
  have HN1 := hid hn1
  have B1 := hid b1
  have H1 := hid (HT.out.below b1)
  have bx1 := BX.out.keep (Touch.of_below b1 []) (by simp)
  have BX1 := hid bx1
  clear o1 g1 f1 b1 o1' hv hr1 hn1 hb1 ow1 bx1 c0 d3
  go_wp2_with fail
  refine (append_no H1.out A1 c1 l HR1.out HN1.out.1 (by omega) hroom).mono ?_
  rintro e w2 ⟨rfl, b2⟩
  have t2 := Touch.of_below b2 [T]
  have KP : Hid (∀ wr : World, ∀ S : List Nat, Touch S w2 wr → (∀ g ∈ S, W.heap.size ≤ g ∧ g < w1.heap.size) → IsTape wr T cap xs safe A c) := hid (fun wr S ts hS => HT.out.keep_new (below_trans B1.out b2) ts (fun g hg => (hS g hg).1))
  clear b2
  have T2 := hid t2
  have OW2 := hid (OW1.out.keep t2 (by intro x hx; simp at hx; omega))
  have bx2 := BX1.out.keep t2 (by intro x hx; simp at hx; omega)
  have BX2 := hid bx2
  clear t2 bx2
  go_wp2_with fail
  go_loopw [29] (fun i wr => ∃ j : Nat, j ≤ l.length ∧ i = .int .i64 j ∧ Hid (OwnBytes wr W.heap.size w1.heap.size A1 l.length) ∧ Hid (∃ S, Touch S w2 wr ∧ ∀ g ∈ S, W.heap.size ≤ g ∧ g < w1.heap.size)) (fun i _ => l.length - (intOf i).toNat)
  case atStart => exact ⟨0, by omega, rfl, OW2, hid ⟨[], Touch.refl _ _, by simp⟩⟩
  case round =>
    obtain ⟨j, hj, rfl, HO, HS⟩ := hrel
    obtain ⟨wo, rfl⟩ : ∃ wo : World, wo = wr := ⟨_, rfl⟩
    by_cases hlt : j < l.length
    · have dl : decide (j < l.length) = true := by simpa using hlt
      obtain ⟨g, cur, rfl, hg1, hg2, hgr, hgs, hgc⟩ := HO.out.some (by omega)
      obtain ⟨y, hy⟩ := hgc j hlt
      have q0 : wo.cell? ⟨g, j, none⟩ = some (.int .u8 y) := (cell_of_row wo _ j _ _ _ hgr).trans hy
      have qf : wo.frozen? ⟨g, j, none⟩ = false := frozen_of_row wo _ j _ _ hgr
      have hji : (j : Int) < (l.length : Int) := by omega
      have hj0 : (0 : Int) ≤ (j : Int) := by omega
      have HGR := hid hgr
      clear hy hgr
      go_wp2_with fail
      go_roundw
      case rel =>
        obtain ⟨S, ts, hS⟩ := HS.out
        exact ⟨j + 1, by omega, by go_num, hid (own_set HGR.out hg1 hg2 hgs hgc j _), hid ⟨g :: S, (ts.mono (fun x hx => List.mem_cons_of_mem _ hx)).trans (Touch.setCell wo ⟨g, j, none⟩ _) (by simp), by
          intro x hx
          rcases List.mem_cons.1 hx with rfl | hx
          · exact ⟨hg1, hg2⟩
          · exact hS x hx⟩⟩
      case measure => simp [intOf]; omega
    · have dl : decide (j < l.length) = false := by simpa using hlt
      obtain ⟨S, ts, hS⟩ := HS.out
      have H3 := hid (KP.out wo S ts hS)
      have t3 : Touch [T] W wo := ((Touch.of_below B1.out [T]).trans T2.out (by simp)).trans ts (fun x hx => .inr (hS x hx).1)
      have zlt := (Array.getElem?_eq_some_iff.1 BX.out.z).1
      have bx3 := BX2.out.keep ts (fun x hx => by have := (hS x hx).1; omega)
      have P3 := hid (HR.out.keep (rest_touch t3))
      have HB3 := hid (HBO.out.keep (rest_touch t3))
      have T3 := hid ((Touch.of_below BW.out [T]).trans t3 (by simp))
      have hT3 : T < wo.heap.size := H3.out.lt
      have BX3 := hid bx3
      have r0 := bx3.r0
      have r1 := bx3.r1
      have r2 := bx3.r2
      have e3 := bx3.d3
      clear ts hS t3 zlt bx3
      go_wp2_with fail
      refine (put_ref_no P3.out hT3 false B k l HB3.out (by omega) hroom).mono ?_
      rintro e w4 ⟨rfl, b4⟩
      have p4 := P3.out.keep (Rest.below b4)
      obtain ⟨A9, hA9⟩ : ∃ A9, A2 = A9 := ⟨_, rfl⟩
      obtain ⟨c9, hc9⟩ : ∃ c9, c2 = c9 := ⟨_, rfl⟩
      rw [hA9, hc9] at p4 ⊢
      obtain ⟨mlen, hml⟩ : ∃ mlen, xs.length = mlen := ⟨_, rfl⟩
      rw [hml]
      have HML := hid hml
      have bx4 := BX3.out.keep (Touch.of_below b4 []) (by simp)
      have H4 := hid (H3.out.below b4)
      have P4 := hid p4
      have B4 := hid b4
      have BX4 := hid bx4
      clear p4 b4 bx4 r0 r1 r2 e3 hml
      go_upto_region 11 with (fail)
      have bb := below_new w4 (.cells #[.int .i64 cap, .slice A9 mlen c9, .int .i64 safe] 29)
      have T5 := hid ((T3.out.trans (Touch.of_below B4.out [T]) (by simp)).trans (Touch.of_below bb [T]) (by simp))
      have h5 := H4.out.below bb
      have p5 := P4.out.keep (Rest.below bb)
      have bx5 := BX4.out.keep (Touch.of_below bb []) (by simp)
      have q := block_new w4 (.cells #[.int .i64 cap, .slice A9 mlen c9, .int .i64 safe] 29)
      obtain ⟨W5, hW5⟩ : ∃ n, w4.alloc (.cells #[.int .i64 cap, .slice A9 mlen c9, .int .i64 safe] 29) = n := ⟨_, rfl⟩
      rw [hW5] at T5 h5 p5 bx5 q ⊢
      obtain ⟨g, hg⟩ : ∃ g, w4.heap.size = g := ⟨_, rfl⟩
      rw [hg] at q ⊢
      have q0 : W5.cell? ⟨g, 0, none⟩ = some (.int .i64 cap) := (cell_of_row W5 _ 0 _ _ _ q).trans rfl
      have q1 : W5.cell? ⟨g, 1, none⟩ = some (.slice A9 mlen c9) := (cell_of_row W5 _ 1 _ _ _ q).trans rfl
      have q2 : W5.cell? ⟨g, 2, none⟩ = some (.int .i64 safe) := (cell_of_row W5 _ 2 _ _ _ q).trans rfl
      have H5 := hid h5
      have P5 := hid p5
      have BX5 := hid bx5
      have z0 := bx5.z0
      have z1 := bx5.z1
      have z2 := bx5.z2
      have zf0 := bx5.zf 0
      have zf1 := bx5.zf 1
      have zf2 := bx5.zf 2
      clear bb h5 p5 bx5 q hW5 hg
      go_wp2_with fail
      have fin := did_end H5.out P5.out BX5.out.z (by rw [HGG.out]; exact Nat.le_refl _) (by rw [HGG.out]; exact lt) T5.out mlen (HML.out)
      refine bodyPost_ret (results_cell_tmp rfl _ _ (G + 1 + 1) 29 _ (0, 0) _ rfl fin.1 Try.underlying29 rfl (by kernel_rfl)) rfl ?_
      exact fin.2
end Go.Proofs.Ythieemfcmehdiaa
