/- PRINTED BY wip/strring.py: the ring of strings: New, Put, Len, At. -/
import Derived.Test.YtlekhibddmbjnaaPut
import Derived.IntWalk
namespace Go.Proofs.Ytlekhibddmbjnaa.Str
open Go.RowKit

set_option maxHeartbeats 400000 in
set_option maxRecDepth 100000 in
theorem put0 (R m : Nat) (x : ByteArray) (w : World) (c1 : w.cell? ⟨R, 1, none⟩ = some (.int .i64 0)) (c2 : w.cell? ⟨R, 2, none⟩ = some (.int .i64 m)) (f2 : w.frozen? ⟨R, 2, none⟩ = false) (hm : m ≤ 1000000) :
    Calls Try.prog 21 #[.pointer (some ⟨R, 0, none⟩), .string x] w fun e w' => e = .returned (.tuple #[.string x, .bool true]) ∧ Calm (w.setCell ⟨R, 2, none⟩ (.int .i64 ((m : Int) + 1))) w' := by
  go_enter Try.func21, Try.ntmps21
  go_wp2
  go_ret2
  exact ⟨rfl, Calm.refl _⟩
theorem info9 : (Try.prog.info? 9).map (fun i => (i.zero, i.size, i.bytes)) = some (some (.string ⟨#[]⟩), 1, 16) := by kernel_rfl

set_option maxHeartbeats 400000 in
set_option maxRecDepth 100000 in
theorem putG (R m room n c B : Nat) (A : Option Addr) (L : List Value) (x : ByteArray) (w : World) (c0 : w.cell? ⟨R, 0, none⟩ = some (.slice A n c)) (c1 : w.cell? ⟨R, 1, none⟩ = some (.int .i64 room)) (c2 : w.cell? ⟨R, 2, none⟩ = some (.int .i64 m))
    (f0 : w.frozen? ⟨R, 0, none⟩ = false) (f2 : w.frozen? ⟨R, 2, none⟩ = false) (hm : m ≤ 1000000) (hr : room ≤ 65536) (hn : n < room) (hown : w.ownsRow B 9 1 (.slice A n c) n L) (hne : (Value.slice A n c).ownBlock ≠ some R) (hB : B ≤ w.heap.size) (hR : R < w.heap.size) :
    Calls Try.prog 21 #[.pointer (some ⟨R, 0, none⟩), .string x] w fun e w' => e = .returned (.tuple #[.string ⟨#[]⟩, .bool false]) ∧ ∃ w1 v', w1.ownsRow B 9 1 v' (n + 1) (L ++ [.string x]) ∧ Touch (Value.slice A n c).ownBlock.toList w w1 ∧
      (v'.ownBlock = (Value.slice A n c).ownBlock ∨ ∀ g, v'.ownBlock = some g → w.heap.size ≤ g) ∧ Calm ((w1.setCell ⟨R, 0, none⟩ v').setCell ⟨R, 2, none⟩ (.int .i64 ((m : Int) + 1))) w' := by
  obtain ⟨i0, hi, hz0, hz1, hz2⟩ := info_parts info9
  have hr0 : ((room : Int) == 0) = false := by simp; omega
  have hlt : (n : Int) < (room : Int) := by omega
  have HO := hid hown
  have HN := hid hne
  clear hown hne
  go_enter Try.func21, Try.ntmps21
  go_wp2
  go_quiet (fail)
  have hC := Calm.of_drewN w nq
  have HC := hid hC
  have hO2 := own_calm HO.out hC
  have hs2 := hC.size
  generalize hW : w.drewN nq = W at *
  clear hW
  have c0' := (hC.cell ⟨R, 0, none⟩).trans c0
  have c2' := (hC.cell ⟨R, 2, none⟩).trans c2
  have f0' := (hC.frozen ⟨R, 0, none⟩).trans f0
  have f2' := (hC.frozen ⟨R, 2, none⟩).trans f2
  have HO2 := hid hO2
  have HS2 := hid hs2
  clear hC hO2 hs2 c0 c1 c2 f0 f2 HO
  go_wp2_with (at_builtin; refine wpList_append_own_at (W.alloc (.cells #[.string x] 9)) rfl (.tmp 42) (.tmp 44) 37 rfl B 9 i0 (.string ⟨#[]⟩) 1 16 Try.underlying37 hi hz0 hz1 hz2 rfl (by decide) (.slice A n c) n L rfl (HO2.out.alloc _) ⟨W.heap.size, 0, none⟩ 1 1 [.string x] rfl rfl ?c1 ?c2 ?c3 ?c4 ?c5 ?_)
  case c1 => exact World.news_of_block (block_new W _)
  case c2 => intro u hu; simp at hu; subst hu; rfl
  case c3 => unfold maxLen; omega
  case c4 => omega
  case c5 => have := HS2.out; simp; omega
  intro v1 w1 hown1 hg1 _ hat1
  obtain ⟨g1, cap1, hv1, _, hlt1⟩ := World.ownsRow.form hown1 (by omega)
  have hb : w1.heap[R]? = W.heap[R]? := (hg1.block R (by have := HS2.out; simp; omega) (fun e => HN.out e.symm)).trans (Below.heap_alloc W _ R (by have := HS2.out; omega))
  have d0 : w1.cell? ⟨R, 0, none⟩ = some (.slice A n c) := (World.cell?_of_block (w := W) hb).trans c0'
  have d2 : w1.cell? ⟨R, 2, none⟩ = some (.int .i64 m) := (World.cell?_of_block (w := W) hb).trans c2'
  have e0 : w1.frozen? ⟨R, 0, none⟩ = false := (World.frozen?_of_block (w := W) hb).trans f0'
  have e2 : w1.frozen? ⟨R, 2, none⟩ = false := (World.frozen?_of_block (w := W) hb).trans f2'
  have ht : Touch (Value.slice A n c).ownBlock.toList w w1 := by
    have t1 : Touch (Value.slice A n c).ownBlock.toList w (W.alloc (.cells #[.string x] 9)) := ((Touch.refl _ w).calm HC.out).trans (Touch.of_below (below_new W _) []) (by simp)
    exact t1.trans (Touch.grown hg1) (by intro y hy; exact .inl hy)
  have hf : v1.ownBlock = (Value.slice A n c).ownBlock ∨ ∀ g, v1.ownBlock = some g → w.heap.size ≤ g := by
    rcases hat1 with h | h
    · exact .inl h
    · right; intro g hg; rw [h] at hg; simp at hg; have := HS2.out; omega
  have HT := hid ht
  have HF := hid hf
  have HOW := hid hown1
  clear ht hf hown1 hg1 hat1 hb c0' c2' f0' f2' HC HO2 HN hi hz0 hz1 hz2
  rw [hv1] at HF HOW ⊢
  clear hv1
  go_wp2
  go_ret2
  exact ⟨rfl, w1, _, HOW.out, HT.out, HF.out, Calm.refl _⟩

set_option maxHeartbeats 400000 in
set_option maxRecDepth 100000 in
theorem putF (R m room g n c k : Nat) (x o : ByteArray) (w : World) (c0 : w.cell? ⟨R, 0, none⟩ = some (.slice (some ⟨g, 0, none⟩) n c)) (c1 : w.cell? ⟨R, 1, none⟩ = some (.int .i64 room)) (c2 : w.cell? ⟨R, 2, none⟩ = some (.int .i64 m))
    (f2 : w.frozen? ⟨R, 2, none⟩ = false) (hm : m ≤ 1000000) (hr : room ≤ 65536) (hr0 : 0 < room) (hn : n = room) (hk : k = m % room) (ck : w.cell? ⟨g, k, none⟩ = some (.string o)) (fk : w.frozen? ⟨g, k, none⟩ = false) (hgR : g ≠ R) :
    Calls Try.prog 21 #[.pointer (some ⟨R, 0, none⟩), .string x] w fun e w' => e = .returned (.tuple #[.string o, .bool true]) ∧ Calm ((w.setCell ⟨g, k, none⟩ (.string x)).setCell ⟨R, 2, none⟩ (.int .i64 ((m : Int) + 1))) w' := by
  have hr1 : ((room : Int) == 0) = false := by simp; omega
  have hge : ¬ (n : Int) < (room : Int) := by omega
  have hkr : k < n := by rw [hk, hn]; exact Nat.mod_lt _ hr0
  have hmod : (m : Int).tmod (room : Int) = (k : Int) := by rw [hk]; rfl
  have hmod' : (m : Int) % (room : Int) = (k : Int) := by rw [hk]; rfl
  clear hk hn
  go_enter Try.func21, Try.ntmps21
  go_wp2
  go_quiet (fail)
  go_wp2
  go_quiet (fail)
  go_wp2
  go_ret2
  exact ⟨rfl, ⟨rfl, rfl, rfl, rfl⟩⟩

/-- what Put tells -/
def told (o : Option ByteArray) : Value := .tuple #[.string (o.getD ⟨#[]⟩), .bool o.isSome]
def PutPost (B : Nat) (w : World) (R : Nat) (v : Value) (room : Nat) (xs : List ByteArray) (x : ByteArray) (e : Ending) (w' : World) : Prop :=
  e = .returned (told (Plain.out room xs.length (Plain.ring room xs) x)) ∧ ∃ v', IsRing 55 9 Value.string B w' R v' room (xs ++ [x]) ∧ Touch (feet R v) w w' ∧ (v'.ownBlock = v.ownBlock ∨ ∀ g, v'.ownBlock = some g → w.heap.size ≤ g)
theorem put_any {B : Nat} {w : World} {R : Nat} {v : Value} {room : Nat} {xs : List ByteArray} (h : IsRing 55 9 Value.string B w R v room xs) (x : ByteArray) (hr : room ≤ 65536) (hm : xs.length ≤ 1000000) :
    Calls Try.prog 21 #[.pointer (some ⟨R, 0, none⟩), .string x] w (PutPost B w R v room xs x) := by
  by_cases h0 : room = 0
  · subst h0
    refine (put0 R xs.length x w h.c1 h.c2 (h.fr 2) hm).mono ?_
    rintro e w' ⟨rfl, hc⟩
    have hr0 : Plain.ring 0 (xs ++ [x]) = Plain.ring 0 xs := by rw [Plain.ring_zero, Plain.ring_zero]
    obtain ⟨h1, h2⟩ := h.counted x hr0
    refine ⟨?_, v, h1.calm hc, h2.calm hc, .inl rfl⟩
    rw [Plain.out_row, if_pos rfl]; rfl
  · have hl := Plain.ring_length room xs
    by_cases hlt : xs.length < room
    · obtain ⟨A, c, hv⟩ := h.shape
      subst hv
      have hn : (Plain.ring room xs).length < room := by omega
      refine (putG R xs.length room _ c B A _ x w h.c0 h.c1 h.c2 (h.fr 0) (h.fr 2) hm hr hn h.row (fun e => h.apart R e rfl) (by have := h.ge; have := h.lt; omega) h.lt).mono ?_
      rintro e w' ⟨rfl, w1, v', hown, ht, hf, hc⟩
      have hr0 : Plain.ring room (xs ++ [x]) = Plain.ring room xs ++ [x] := by rw [Plain.ring_snoc]; unfold Plain.put; rw [if_neg h0, if_pos hn]
      obtain ⟨h1, h2⟩ := h.grown x hr0 hown ht hf
      refine ⟨?_, v', h1.calm hc, h2.calm hc, hf⟩
      rw [Plain.out_row, if_neg h0, if_pos hlt]; rfl
    · have hn : (Plain.ring room xs).length = room := by omega
      obtain ⟨g, cap, hv, _, _⟩ := h.row.form (by omega)
      subst hv
      have hk : xs.length % room < (Plain.ring room xs).length := by rw [hn]; exact Nat.mod_lt _ (by omega)
      have hck := h.row.cellAt (xs.length % room) (by omega)
      rw [List.getElem?_map, List.getElem?_eq_getElem hk] at hck
      refine (putF R xs.length room g _ cap (xs.length % room) x _ w h.c0 h.c1 h.c2 (h.fr 2) hm hr (by omega) hn rfl hck (h.row.frozenAt _) (h.apart g rfl)).mono ?_
      rintro e w' ⟨rfl, hc⟩
      have hr0 : Plain.ring room (xs ++ [x]) = (Plain.ring room xs).set (xs.length % room) x := by rw [Plain.ring_snoc]; unfold Plain.put; rw [if_neg h0, if_neg (by omega)]
      obtain ⟨h1, h2⟩ := h.stored rfl _ x hr0
      refine ⟨?_, _, h1.calm hc, h2.calm hc, .inl rfl⟩
      unfold Plain.out
      rw [if_neg h0, if_neg (by omega), List.getElem?_eq_getElem hk]; rfl

set_option maxHeartbeats 400000 in
set_option maxRecDepth 100000 in
theorem new_yes (n : Nat) (w : World) (hn : n ≤ 65536) :
    Calls Try.prog 20 #[.int .i64 n] w fun e w' => e = .returned (.pointer (some ⟨w.heap.size, 0, none⟩)) ∧ w' = w.alloc (.cells #[.slice none 0 0, .int .i64 n, .int .i64 0] 55) := by
  go_enter Try.func20, Try.ntmps20
  go_wp2
  go_ret
  exact ⟨rfl, rfl⟩
set_option maxHeartbeats 400000 in
set_option maxRecDepth 100000 in
theorem new_no (n : Int) (w : World) (hn : n < 0 ∨ 65536 < n) :
    Calls Try.prog 20 #[.int .i64 n] w fun e w' => e = .returned (.pointer none) ∧ w = w' := by
  by_cases h : n < 0
  · go_enter Try.func20, Try.ntmps20
    go_wp2
    go_ret
    exact ⟨rfl, rfl⟩
  · have h2 : 65536 < n := by omega
    clear hn
    go_enter Try.func20, Try.ntmps20
    go_wp2
    go_ret
    exact ⟨rfl, rfl⟩
theorem ring_new (B : Nat) (w : World) (n : Nat) (hB : B ≤ w.heap.size) : IsRing 55 9 Value.string B (w.alloc (.cells #[.slice none 0 0, .int .i64 n, .int .i64 0] 55)) w.heap.size (.slice none 0 0) n [] :=
  ⟨block_new w _, World.ownsRow_nil _ _ _ _, hB, by decide⟩
set_option maxHeartbeats 400000 in
set_option maxRecDepth 100000 in
theorem len_any {B : Nat} {w : World} {R : Nat} {v : Value} {room : Nat} {xs : List ByteArray} (h : IsRing 55 9 Value.string B w R v room xs) :
    Calls Try.prog 25 #[.pointer (some ⟨R, 0, none⟩)] w fun e w' => e = .returned (.int .i64 ((min xs.length room : Nat) : Int)) ∧ w = w' := by
  obtain ⟨A, c, hv⟩ := h.shape
  have c0 := h.c0
  rw [hv, Plain.ring_length] at c0
  generalize min xs.length room = n at *
  clear h hv
  go_enter Try.func25, Try.ntmps25
  go_wp2
  go_ret
  exact ⟨rfl, rfl⟩
/-- the thing of an age -/
def aged (room : Nat) (xs : List ByteArray) (age : Int) : Option ByteArray := if 0 ≤ age ∧ age < xs.length ∧ age < room then xs[xs.length - 1 - age.toNat]? else none
set_option maxHeartbeats 400000 in
set_option maxRecDepth 100000 in
theorem atY (R m room g n c k a : Nat) (o : ByteArray) (w : World) (c0 : w.cell? ⟨R, 0, none⟩ = some (.slice (some ⟨g, 0, none⟩) n c)) (c1 : w.cell? ⟨R, 1, none⟩ = some (.int .i64 room)) (c2 : w.cell? ⟨R, 2, none⟩ = some (.int .i64 m))
    (hm : m ≤ 1000000) (hr : room ≤ 65536) (hr0 : 0 < room) (ha : a < n) (hn : n ≤ m) (hk : k = (m - 1 - a) % room) (hkn : k < n) (ck : w.cell? ⟨g, k, none⟩ = some (.string o)) :
    Calls Try.prog 23 #[.pointer (some ⟨R, 0, none⟩), .int .i64 a] w fun e w' => e = .returned (.tuple #[.string o, .bool true]) ∧ ∃ m, w' = w.drewN m := by
  have w1 : IntKind.i64.wrap ((m : Int) - 1) = (m : Int) - 1 := IntWalk.i64_in _ (by omega)
  have w2 : IntKind.i64.wrap ((m : Int) - 1 - (a : Int)) = (m : Int) - 1 - (a : Int) := IntWalk.i64_in _ (by omega)
  have w3 : ((m : Int) - 1 - (a : Int)).tmod (room : Int) = (k : Int) := by
    rw [show (m : Int) - 1 - (a : Int) = ((m - 1 - a : Nat) : Int) by omega, hk]; rfl
  have w4 : ((m : Int) - 1 - (a : Int)) % (room : Int) = (k : Int) := by
    rw [show (m : Int) - 1 - (a : Int) = ((m - 1 - a : Nat) : Int) by omega, hk]; rfl
  have w5 : (0 : Int) ≤ (m : Int) - 1 - (a : Int) := by omega
  have hr1 : ((room : Int) == 0) = false := by simp; omega
  have t1 : decide ((a : Int) < 0) = false := by simp
  have t2 : decide ((n : Int) ≤ (a : Int)) = false := by simp; omega
  clear hk
  go_enter Try.func23, Try.ntmps23
  go_wp2
  go_quiet (fail)
  go_wp2
  go_ret2
  exact ⟨rfl, _, rfl⟩
set_option maxHeartbeats 400000 in
set_option maxRecDepth 100000 in
theorem atN (R n c : Nat) (A : Option Addr) (a : Int) (w : World) (c0 : w.cell? ⟨R, 0, none⟩ = some (.slice A n c)) (ha : a < 0 ∨ (n : Int) ≤ a) :
    Calls Try.prog 23 #[.pointer (some ⟨R, 0, none⟩), .int .i64 a] w fun e w' => e = .returned (.tuple #[.string ⟨#[]⟩, .bool false]) ∧ ∃ m, w' = w.drewN m := by
  by_cases h : a < 0
  · have t1 : decide (a < 0) = true := by simpa using h
    clear ha
    go_enter Try.func23, Try.ntmps23
    go_wp2
    go_ret2
    exact ⟨rfl, 0, rfl⟩
  · have t1 : decide (a < 0) = false := by simpa using h
    have h2 : (n : Int) ≤ a := by omega
    have t2 : decide ((n : Int) ≤ a) = true := by simpa using h2
    clear ha
    go_enter Try.func23, Try.ntmps23
    go_wp2
    go_ret2
    exact ⟨rfl, 0, rfl⟩
def AtPost (w : World) (room : Nat) (xs : List ByteArray) (age : Int) (e : Ending) (w' : World) : Prop := e = .returned (told (aged room xs age)) ∧ ∃ m, w' = w.drewN m
theorem at_any {B : Nat} {w : World} {R : Nat} {v : Value} {room : Nat} {xs : List ByteArray} (h : IsRing 55 9 Value.string B w R v room xs) (age : Int) (hr : room ≤ 65536) (hm : xs.length ≤ 1000000) :
    Calls Try.prog 23 #[.pointer (some ⟨R, 0, none⟩), .int .i64 age] w (AtPost w room xs age) := by
  have hl := Plain.ring_length room xs
  by_cases ha : 0 ≤ age ∧ age < xs.length ∧ age < room
  · obtain ⟨a, rfl⟩ := Int.eq_ofNat_of_zero_le ha.1
    have haL : a < (Plain.ring room xs).length := by omega
    obtain ⟨g, cap, hv, _, _⟩ := h.row.form (by omega)
    subst hv
    have hage := Plain.ring_age room xs a haL
    have hkl : (xs.length - 1 - a) % room < (Plain.ring room xs).length := by
      rcases Nat.lt_or_ge ((xs.length - 1 - a) % room) (Plain.ring room xs).length with h' | h'
      · exact h'
      · rw [List.getElem?_eq_none h', List.getElem?_eq_getElem (by omega)] at hage; cases hage
    have hck := h.row.cellAt ((xs.length - 1 - a) % room) (by omega)
    rw [List.getElem?_map, hage, List.getElem?_eq_getElem (by omega)] at hck
    refine (atY R xs.length room g _ cap _ a _ w h.c0 h.c1 h.c2 hm hr (by omega) haL (by omega) rfl hkl hck).mono ?_
    rintro e w' ⟨rfl, hc⟩
    refine ⟨?_, hc⟩
    unfold aged
    rw [if_pos ha, Int.toNat_natCast, List.getElem?_eq_getElem (by omega)]; rfl
  · obtain ⟨A, c, hv⟩ := h.shape
    subst hv
    refine (atN R _ c A age w h.c0 (by omega)).mono ?_
    rintro e w' ⟨rfl, hc⟩
    refine ⟨?_, hc⟩
    unfold aged
    rw [if_neg ha]; rfl

end Go.Proofs.Ytlekhibddmbjnaa.Str
