/- The walks of ring.New, Put, Len, Many, Room of ints. -/
import Derived.Test.YtlekhibddmbjnaaGen
import Derived.Test.YtlekhibddmbjnaaPhys
import Derived.RegionTactic
import Derived.Deep.QuietTactic
import Derived.BigQuiet
import Derived.Maps.AppendAt
namespace Go.Proofs.Ytlekhibddmbjnaa
open Go.RowKit

/-- a ring in memory: its block, and the row that its slice owns -/
structure IsRing (S e : TypeId) {α : Type} (mk : α → Value) (B : Nat) (w : World) (R : Nat) (v : Value) (room : Nat) (xs : List α) : Prop where
  blk : w.heap[R]? = some (.cells #[v, .int .i64 room, .int .i64 xs.length] S (0, 0))
  row : w.ownsRow B e 1 v (Plain.ring room xs).length ((Plain.ring room xs).map mk)
  ge : B ≤ R
  ne : S ≠ e
section
variable {S e : TypeId} {α : Type} {mk : α → Value} {B : Nat} {w : World} {R : Nat} {v : Value} {room : Nat} {xs : List α}
theorem IsRing.c0 (h : IsRing S e mk B w R v room xs) : w.cell? ⟨R, 0, none⟩ = some v := by rw [cell_of_row w R 0 _ _ _ h.blk]; rfl
theorem IsRing.c1 (h : IsRing S e mk B w R v room xs) : w.cell? ⟨R, 1, none⟩ = some (.int .i64 room) := by rw [cell_of_row w R 1 _ _ _ h.blk]; rfl
theorem IsRing.c2 (h : IsRing S e mk B w R v room xs) : w.cell? ⟨R, 2, none⟩ = some (.int .i64 xs.length) := by rw [cell_of_row w R 2 _ _ _ h.blk]; rfl
theorem IsRing.fr (h : IsRing S e mk B w R v room xs) (j : Nat) : w.frozen? ⟨R, j, none⟩ = false := frozen_of_row w R j _ _ h.blk
theorem IsRing.lt (h : IsRing S e mk B w R v room xs) : R < w.heap.size := (Array.getElem?_eq_some_iff.1 h.blk).1
theorem IsRing.apart (h : IsRing S e mk B w R v room xs) : ∀ g, v.ownBlock = some g → g ≠ R := by
  intro g hg hR
  subst hR
  rcases h.row.2 with ⟨rfl, _⟩ | ⟨g', cap, cur, rfl, _, hgg, _⟩
  · simp [Value.ownBlock] at hg
  · simp only [Value.ownBlock, Option.some.injEq] at hg
    subst hg
    have hb := h.blk
    rw [hgg] at hb
    injection hb with hb
    injection hb with _ ht _
    exact h.ne ht.symm
theorem IsRing.calm {w' : World} (h : IsRing S e mk B w R v room xs) (c : Calm w w') : IsRing S e mk B w' R v room xs := ⟨by rw [c.heap]; exact h.blk, own_calm h.row c, h.ge, h.ne⟩
/-- what a ring touches -/
def feet (R : Nat) (v : Value) : List Nat := R :: v.ownBlock.toList
theorem IsRing.kept {w' : World} {T : List Nat} (h : IsRing S e mk B w R v room xs) (t : Touch T w w') (hd : ∀ x ∈ feet R v, x ∉ T) : IsRing S e mk B w' R v room xs :=
  ⟨by rw [t.block R h.lt (hd R (by simp [feet]))]; exact h.blk, own_kept h.row t (fun g hg => hd g (by simp [feet, hg])), h.ge, h.ne⟩
theorem IsRing.feet_ge (h : IsRing S e mk B w R v room xs) : ∀ x ∈ feet R v, B ≤ x := by
  intro x hx
  simp only [feet, List.mem_cons, Option.mem_toList] at hx
  rcases hx with rfl | hx
  · exact h.ge
  · exact (h.row.lt x hx).1
theorem IsRing.feet_lt (h : IsRing S e mk B w R v room xs) : ∀ x ∈ feet R v, x < w.heap.size := by
  intro x hx
  simp only [feet, List.mem_cons, Option.mem_toList] at hx
  rcases hx with rfl | hx
  · exact h.lt
  · exact (h.row.lt x hx).2
theorem IsRing.shape (h : IsRing S e mk B w R v room xs) : ∃ A c, v = .slice A (Plain.ring room xs).length c := by
  rcases h.row.2 with ⟨rfl, hn⟩ | ⟨g, cap, cur, rfl, _⟩
  · exact ⟨none, 0, by rw [hn]⟩
  · exact ⟨_, cap, rfl⟩
/-- the slice as it is, many more -/
theorem IsRing.counted (h : IsRing S e mk B w R v room xs) (x : α) (hr : Plain.ring room (xs ++ [x]) = Plain.ring room xs) : IsRing S e mk B (w.setCell ⟨R, 2, none⟩ (.int .i64 ((xs.length : Int) + 1))) R v room (xs ++ [x]) ∧ Touch (feet R v) w (w.setCell ⟨R, 2, none⟩ (.int .i64 ((xs.length : Int) + 1))) := by
  refine ⟨⟨?_, ?_, h.ge, h.ne⟩, (Touch.setCell _ _ _).mono (by simp [feet])⟩
  · rw [heap_setCell_same w R 2 _ S _ h.blk]
    simp
  · rw [hr]
    exact ownsRow_setCell_other h.row (fun hg => h.apart R hg rfl) _
/-- a thing more at the slice's end -/
theorem IsRing.grown {w1 : World} {v' : Value} (h : IsRing S e mk B w R v room xs) (x : α) (hr : Plain.ring room (xs ++ [x]) = Plain.ring room xs ++ [x])
    (hown : w1.ownsRow B e 1 v' ((Plain.ring room xs).length + 1) ((Plain.ring room xs).map mk ++ [mk x])) (hg : Touch v.ownBlock.toList w w1) (hf : v'.ownBlock = v.ownBlock ∨ ∀ g, v'.ownBlock = some g → w.heap.size ≤ g) :
    IsRing S e mk B ((w1.setCell ⟨R, 0, none⟩ v').setCell ⟨R, 2, none⟩ (.int .i64 ((xs.length : Int) + 1))) R v' room (xs ++ [x]) ∧ Touch (feet R v) w ((w1.setCell ⟨R, 0, none⟩ v').setCell ⟨R, 2, none⟩ (.int .i64 ((xs.length : Int) + 1))) := by
  have hb1 : w1.heap[R]? = some (.cells #[v, .int .i64 room, .int .i64 xs.length] S (0, 0)) := by
    rw [hg.block R h.lt (fun hm => by simp at hm; exact h.apart R hm rfl)]; exact h.blk
  have hne : v'.ownBlock ≠ some R := by
    intro e
    rcases hf with hf | hf
    · exact h.apart R (hf ▸ e) rfl
    · have := hf R e; have := h.lt; omega
  refine ⟨⟨?_, ?_, h.ge, h.ne⟩, ?_⟩
  · rw [heap_setCell_same _ R 2 _ S _ (heap_setCell_same w1 R 0 _ S _ hb1)]
    simp
  · have hl : (Plain.ring room (xs ++ [x])).length = (Plain.ring room xs).length + 1 := by rw [hr]; simp
    have hm : (Plain.ring room (xs ++ [x])).map mk = (Plain.ring room xs).map mk ++ [mk x] := by rw [hr]; simp
    rw [hl, hm]
    exact ownsRow_setCell_other (ownsRow_setCell_other hown hne _) hne _
  · have t1 : Touch (feet R v) w w1 := hg.mono (by intro y hy; simp [feet] at hy ⊢; exact .inr hy)
    exact (t1.trans (Touch.setCell w1 ⟨R, 0, none⟩ v') (by simp [feet])).trans (Touch.setCell _ ⟨R, 2, none⟩ _) (by simp [feet])
/-- a thing in the place of another -/
theorem IsRing.stored {g cap : Nat} {n : Nat} (h : IsRing S e mk B w R (.slice (some ⟨g, 0, none⟩) n cap) room xs) (hn : n = (Plain.ring room xs).length) (k : Nat) (x : α) (hr : Plain.ring room (xs ++ [x]) = (Plain.ring room xs).set k x) :
    IsRing S e mk B ((w.setCell ⟨g, k, none⟩ (mk x)).setCell ⟨R, 2, none⟩ (.int .i64 ((xs.length : Int) + 1))) R (.slice (some ⟨g, 0, none⟩) n cap) room (xs ++ [x]) ∧
      Touch (feet R (.slice (some ⟨g, 0, none⟩) n cap)) w ((w.setCell ⟨g, k, none⟩ (mk x)).setCell ⟨R, 2, none⟩ (.int .i64 ((xs.length : Int) + 1))) := by
  subst hn
  have hgR : g ≠ R := h.apart g rfl
  have hs := (World.ownsRow.stored h.row k (mk x)).1
  refine ⟨⟨?_, ?_, h.ge, h.ne⟩, ?_⟩
  · rw [heap_setCell_same _ R 2 _ S _ (by rw [Below.heap_setCell _ _ _ _ (by simpa using fun e => hgR e.symm)]; exact h.blk)]
    simp
  · have hl : (Plain.ring room (xs ++ [x])).length = (Plain.ring room xs).length := by rw [hr]; simp
    have hm : (Plain.ring room (xs ++ [x])).map mk = ((Plain.ring room xs).map mk).set k (mk x) := by rw [hr, List.map_set]
    rw [hl, hm]
    exact ownsRow_setCell_other hs (by simpa [Value.ownBlock] using hgR) _
  · exact ((Touch.setCell w ⟨g, k, none⟩ _).mono (by simp [feet, Value.ownBlock])).trans (Touch.setCell _ ⟨R, 2, none⟩ _) (by simp [feet])
end

/-! ### the walks over ints -/
set_option maxHeartbeats 400000 in
set_option maxRecDepth 100000 in
theorem put0 (R m : Nat) (x : Int) (w : World) (c1 : w.cell? ⟨R, 1, none⟩ = some (.int .i64 0)) (c2 : w.cell? ⟨R, 2, none⟩ = some (.int .i64 m)) (f2 : w.frozen? ⟨R, 2, none⟩ = false) (hm : m ≤ 1000000) :
    Calls Try.prog 12 #[.pointer (some ⟨R, 0, none⟩), .int .i64 x] w fun e w' => e = .returned (.tuple #[.int .i64 x, .bool true]) ∧ Calm (w.setCell ⟨R, 2, none⟩ (.int .i64 ((m : Int) + 1))) w' := by
  go_enter Try.func12, Try.ntmps12
  go_wp2
  go_ret2
  exact ⟨rfl, Calm.refl _⟩
theorem info3 : (Try.prog.info? 3).map (fun i => (i.zero, i.size, i.bytes)) = some (some (.int .i64 0), 1, 8) := by kernel_rfl

set_option maxHeartbeats 400000 in
set_option maxRecDepth 100000 in
theorem putG (R m room n c B : Nat) (A : Option Addr) (L : List Value) (x : Int) (w : World) (c0 : w.cell? ⟨R, 0, none⟩ = some (.slice A n c)) (c1 : w.cell? ⟨R, 1, none⟩ = some (.int .i64 room)) (c2 : w.cell? ⟨R, 2, none⟩ = some (.int .i64 m))
    (f0 : w.frozen? ⟨R, 0, none⟩ = false) (f2 : w.frozen? ⟨R, 2, none⟩ = false) (hm : m ≤ 1000000) (hr : room ≤ 65536) (hn : n < room) (hown : w.ownsRow B 3 1 (.slice A n c) n L) (hne : (Value.slice A n c).ownBlock ≠ some R) (hB : B ≤ w.heap.size) (hR : R < w.heap.size) :
    Calls Try.prog 12 #[.pointer (some ⟨R, 0, none⟩), .int .i64 x] w fun e w' => e = .returned (.tuple #[.int .i64 0, .bool false]) ∧ ∃ w1 v', w1.ownsRow B 3 1 v' (n + 1) (L ++ [.int .i64 x]) ∧ Touch (Value.slice A n c).ownBlock.toList w w1 ∧
      (v'.ownBlock = (Value.slice A n c).ownBlock ∨ ∀ g, v'.ownBlock = some g → w.heap.size ≤ g) ∧ Calm ((w1.setCell ⟨R, 0, none⟩ v').setCell ⟨R, 2, none⟩ (.int .i64 ((m : Int) + 1))) w' := by
  obtain ⟨i0, hi, hz0, hz1, hz2⟩ := info_parts info3
  have hr0 : ((room : Int) == 0) = false := by simp; omega
  have hlt : (n : Int) < (room : Int) := by omega
  have HO := hid hown
  have HN := hid hne
  clear hown hne
  go_enter Try.func12, Try.ntmps12
  go_wp2
  go_quiet (fail)
  have hC := Calm.of_drewN w nq
  have HC := hid hC
  have hO2 := own_calm HO.out hC
  have hs2 := hC.size
  generalize hW : w.drewN nq = W at *
  clear hW
  have c0' := (hC.cell ⟨R, 0, none⟩).trans c0
  have c2' := (hC.cell ⟨R, 2, none⟩).trans c2
  have f0' := (hC.frozen ⟨R, 0, none⟩).trans f0
  have f2' := (hC.frozen ⟨R, 2, none⟩).trans f2
  have HO2 := hid hO2
  have HS2 := hid hs2
  clear hC hO2 hs2 c0 c1 c2 f0 f2 HO
  go_wp2_with (at_builtin; refine wpList_append_own_at (W.alloc (.cells #[.int .i64 x] 3)) rfl (.tmp 42) (.tmp 44) 22 rfl B 3 i0 (.int .i64 0) 1 8 Try.underlying22 hi hz0 hz1 hz2 rfl (by decide) (.slice A n c) n L rfl (HO2.out.alloc _) ⟨W.heap.size, 0, none⟩ 1 1 [.int .i64 x] rfl rfl ?c1 ?c2 ?c3 ?c4 ?c5 ?_)
  case c1 => exact World.news_of_block (block_new W _)
  case c2 => intro u hu; simp at hu; subst hu; rfl
  case c3 => unfold maxLen; omega
  case c4 => omega
  case c5 => have := HS2.out; simp; omega
  intro v1 w1 hown1 hg1 _ hat1
  obtain ⟨g1, cap1, hv1, _, hlt1⟩ := World.ownsRow.form hown1 (by omega)
  have hb : w1.heap[R]? = W.heap[R]? := (hg1.block R (by have := HS2.out; simp; omega) (fun e => HN.out e.symm)).trans (Below.heap_alloc W _ R (by have := HS2.out; omega))
  have d0 : w1.cell? ⟨R, 0, none⟩ = some (.slice A n c) := (World.cell?_of_block (w := W) hb).trans c0'
  have d2 : w1.cell? ⟨R, 2, none⟩ = some (.int .i64 m) := (World.cell?_of_block (w := W) hb).trans c2'
  have e0 : w1.frozen? ⟨R, 0, none⟩ = false := (World.frozen?_of_block (w := W) hb).trans f0'
  have e2 : w1.frozen? ⟨R, 2, none⟩ = false := (World.frozen?_of_block (w := W) hb).trans f2'
  have ht : Touch (Value.slice A n c).ownBlock.toList w w1 := by
    have t1 : Touch (Value.slice A n c).ownBlock.toList w (W.alloc (.cells #[.int .i64 x] 3)) := ((Touch.refl _ w).calm HC.out).trans (Touch.of_below (below_new W _) []) (by simp)
    exact t1.trans (Touch.grown hg1) (by intro y hy; exact .inl hy)
  have hf : v1.ownBlock = (Value.slice A n c).ownBlock ∨ ∀ g, v1.ownBlock = some g → w.heap.size ≤ g := by
    rcases hat1 with h | h
    · exact .inl h
    · right; intro g hg; rw [h] at hg; simp at hg; have := HS2.out; omega
  have HT := hid ht
  have HF := hid hf
  have HOW := hid hown1
  clear ht hf hown1 hg1 hat1 hb c0' c2' f0' f2' HC HO2 HN hi hz0 hz1 hz2
  rw [hv1] at HF HOW ⊢
  clear hv1
  go_wp2
  go_ret2
  exact ⟨rfl, w1, _, HOW.out, HT.out, HF.out, Calm.refl _⟩

set_option maxHeartbeats 400000 in
set_option maxRecDepth 100000 in
theorem putF (R m room g n c k : Nat) (x o : Int) (w : World) (c0 : w.cell? ⟨R, 0, none⟩ = some (.slice (some ⟨g, 0, none⟩) n c)) (c1 : w.cell? ⟨R, 1, none⟩ = some (.int .i64 room)) (c2 : w.cell? ⟨R, 2, none⟩ = some (.int .i64 m))
    (f2 : w.frozen? ⟨R, 2, none⟩ = false) (hm : m ≤ 1000000) (hr : room ≤ 65536) (hr0 : 0 < room) (hn : n = room) (hk : k = m % room) (ck : w.cell? ⟨g, k, none⟩ = some (.int .i64 o)) (fk : w.frozen? ⟨g, k, none⟩ = false) (hgR : g ≠ R) :
    Calls Try.prog 12 #[.pointer (some ⟨R, 0, none⟩), .int .i64 x] w fun e w' => e = .returned (.tuple #[.int .i64 o, .bool true]) ∧ Calm ((w.setCell ⟨g, k, none⟩ (.int .i64 x)).setCell ⟨R, 2, none⟩ (.int .i64 ((m : Int) + 1))) w' := by
  have hr1 : ((room : Int) == 0) = false := by simp; omega
  have hge : ¬ (n : Int) < (room : Int) := by omega
  have hkr : k < n := by rw [hk, hn]; exact Nat.mod_lt _ hr0
  have hmod : (m : Int).tmod (room : Int) = (k : Int) := by rw [hk]; rfl
  have hmod' : (m : Int) % (room : Int) = (k : Int) := by rw [hk]; rfl
  clear hk hn
  go_enter Try.func12, Try.ntmps12
  go_wp2
  go_quiet (fail)
  go_wp2
  go_quiet (fail)
  go_wp2
  go_ret2
  exact ⟨rfl, ⟨rfl, rfl, rfl, rfl⟩⟩

/-- what Put tells -/
def told (o : Option Int) : Value := .tuple #[.int .i64 (o.getD 0), .bool o.isSome]
def PutPost (B : Nat) (w : World) (R : Nat) (v : Value) (room : Nat) (xs : List Int) (x : Int) (e : Ending) (w' : World) : Prop :=
  e = .returned (told (Plain.out room xs.length (Plain.ring room xs) x)) ∧ ∃ v', IsRing 52 3 (Value.int .i64) B w' R v' room (xs ++ [x]) ∧ Touch (feet R v) w w' ∧ (v'.ownBlock = v.ownBlock ∨ ∀ g, v'.ownBlock = some g → w.heap.size ≤ g)
theorem put_any {B : Nat} {w : World} {R : Nat} {v : Value} {room : Nat} {xs : List Int} (h : IsRing 52 3 (Value.int .i64) B w R v room xs) (x : Int) (hr : room ≤ 65536) (hm : xs.length ≤ 1000000) :
    Calls Try.prog 12 #[.pointer (some ⟨R, 0, none⟩), .int .i64 x] w (PutPost B w R v room xs x) := by
  by_cases h0 : room = 0
  · subst h0
    refine (put0 R xs.length x w h.c1 h.c2 (h.fr 2) hm).mono ?_
    rintro e w' ⟨rfl, hc⟩
    have hr0 : Plain.ring 0 (xs ++ [x]) = Plain.ring 0 xs := by rw [Plain.ring_zero, Plain.ring_zero]
    obtain ⟨h1, h2⟩ := h.counted x hr0
    refine ⟨?_, v, h1.calm hc, h2.calm hc, .inl rfl⟩
    rw [Plain.out_row, if_pos rfl]; rfl
  · have hl := Plain.ring_length room xs
    by_cases hlt : xs.length < room
    · obtain ⟨A, c, hv⟩ := h.shape
      subst hv
      have hn : (Plain.ring room xs).length < room := by omega
      refine (putG R xs.length room _ c B A _ x w h.c0 h.c1 h.c2 (h.fr 0) (h.fr 2) hm hr hn h.row (fun e => h.apart R e rfl) (by have := h.ge; have := h.lt; omega) h.lt).mono ?_
      rintro e w' ⟨rfl, w1, v', hown, ht, hf, hc⟩
      have hr0 : Plain.ring room (xs ++ [x]) = Plain.ring room xs ++ [x] := by rw [Plain.ring_snoc]; unfold Plain.put; rw [if_neg h0, if_pos hn]
      obtain ⟨h1, h2⟩ := h.grown x hr0 hown ht hf
      refine ⟨?_, v', h1.calm hc, h2.calm hc, hf⟩
      rw [Plain.out_row, if_neg h0, if_pos hlt]; rfl
    · have hn : (Plain.ring room xs).length = room := by omega
      obtain ⟨g, cap, hv, _, _⟩ := h.row.form (by omega)
      subst hv
      have hk : xs.length % room < (Plain.ring room xs).length := by rw [hn]; exact Nat.mod_lt _ (by omega)
      have hck := h.row.cellAt (xs.length % room) (by omega)
      rw [List.getElem?_map, List.getElem?_eq_getElem hk] at hck
      refine (putF R xs.length room g _ cap (xs.length % room) x _ w h.c0 h.c1 h.c2 (h.fr 2) hm hr (by omega) hn rfl hck (h.row.frozenAt _) (h.apart g rfl)).mono ?_
      rintro e w' ⟨rfl, hc⟩
      have hr0 : Plain.ring room (xs ++ [x]) = (Plain.ring room xs).set (xs.length % room) x := by rw [Plain.ring_snoc]; unfold Plain.put; rw [if_neg h0, if_neg (by omega)]
      obtain ⟨h1, h2⟩ := h.stored rfl _ x hr0
      refine ⟨?_, _, h1.calm hc, h2.calm hc, .inl rfl⟩
      unfold Plain.out
      rw [if_neg h0, if_neg (by omega), List.getElem?_eq_getElem hk]; rfl

set_option maxHeartbeats 400000 in
set_option maxRecDepth 100000 in
theorem new_yes (n : Nat) (w : World) (hn : n ≤ 65536) :
    Calls Try.prog 10 #[.int .i64 n] w fun e w' => e = .returned (.pointer (some ⟨w.heap.size, 0, none⟩)) ∧ w' = w.alloc (.cells #[.slice none 0 0, .int .i64 n, .int .i64 0] 52) := by
  go_enter Try.func10, Try.ntmps10
  go_wp2
  go_ret
  exact ⟨rfl, rfl⟩
set_option maxHeartbeats 400000 in
set_option maxRecDepth 100000 in
theorem new_no (n : Int) (w : World) (hn : n < 0 ∨ 65536 < n) :
    Calls Try.prog 10 #[.int .i64 n] w fun e w' => e = .returned (.pointer none) ∧ w = w' := by
  by_cases h : n < 0
  · go_enter Try.func10, Try.ntmps10
    go_wp2
    go_ret
    exact ⟨rfl, rfl⟩
  · have h2 : 65536 < n := by omega
    clear hn
    go_enter Try.func10, Try.ntmps10
    go_wp2
    go_ret
    exact ⟨rfl, rfl⟩
theorem ring_new (B : Nat) (w : World) (n : Nat) (hB : B ≤ w.heap.size) : IsRing 52 3 (Value.int .i64) B (w.alloc (.cells #[.slice none 0 0, .int .i64 n, .int .i64 0] 52)) w.heap.size (.slice none 0 0) n [] :=
  ⟨block_new w _, World.ownsRow_nil _ _ _ _, hB, by decide⟩
set_option maxHeartbeats 400000 in
set_option maxRecDepth 100000 in
theorem len_any {B : Nat} {w : World} {R : Nat} {v : Value} {room : Nat} {xs : List Int} (h : IsRing 52 3 (Value.int .i64) B w R v room xs) :
    Calls Try.prog 13 #[.pointer (some ⟨R, 0, none⟩)] w fun e w' => e = .returned (.int .i64 ((min xs.length room : Nat) : Int)) ∧ w = w' := by
  obtain ⟨A, c, hv⟩ := h.shape
  have c0 := h.c0
  rw [hv, Plain.ring_length] at c0
  generalize min xs.length room = n at *
  clear h hv
  go_enter Try.func13, Try.ntmps13
  go_wp2
  go_ret
  exact ⟨rfl, rfl⟩
set_option maxHeartbeats 400000 in
set_option maxRecDepth 100000 in
theorem many_any {B : Nat} {w : World} {R : Nat} {v : Value} {room : Nat} {xs : List Int} (h : IsRing 52 3 (Value.int .i64) B w R v room xs) :
    Calls Try.prog 14 #[.pointer (some ⟨R, 0, none⟩)] w fun e w' => e = .returned (.int .i64 xs.length) ∧ w = w' := by
  have c2 := h.c2
  clear h
  go_enter Try.func14, Try.ntmps14
  go_wp2
  go_ret
  exact ⟨rfl, rfl⟩
set_option maxHeartbeats 400000 in
set_option maxRecDepth 100000 in
theorem room_any {B : Nat} {w : World} {R : Nat} {v : Value} {room : Nat} {xs : List Int} (h : IsRing 52 3 (Value.int .i64) B w R v room xs) :
    Calls Try.prog 17 #[.pointer (some ⟨R, 0, none⟩)] w fun e w' => e = .returned (.int .i64 room) ∧ w = w' := by
  have c1 := h.c1
  clear h
  go_enter Try.func17, Try.ntmps17
  go_wp2
  go_ret
  exact ⟨rfl, rfl⟩
end Go.Proofs.Ytlekhibddmbjnaa
