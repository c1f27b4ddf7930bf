/- The tape in memory; its short functions. -/
import Derived.Test.YthieemfcmehdiaaGen
import Derived.RegionTactic
import Derived.Deep.QuietTactic
import Derived.BigQuiet
import Derived.IntWalk
import Derived.Maps.AppendAt
import Derived.Lib.SliceRun
namespace Go.Proofs.Ythieemfcmehdiaa
open Go.RowKit

/-- a record, or a filemark -/
abbrev Thing := Bool × List UInt8
def bytesV (l : List UInt8) : List Value := l.map fun b => .int .u8 b.toNat
theorem bytesV_length (l : List UInt8) : (bytesV l).length = l.length := by simp [bytesV]
def cost (x : Thing) : Nat := 8 + x.2.length
def used (xs : List Thing) : Nat := (xs.map cost).sum
theorem used_snoc (xs : List Thing) (x : Thing) : used (xs ++ [x]) = used xs + cost x := by simp [used]
theorem used_mem {xs : List Thing} {x : Thing} (h : x ∈ xs) : cost x ≤ used xs := by
  induction xs with
  | nil => cases h
  | cons y xs ih =>
    simp only [used, List.map_cons, List.sum_cons] at *
    rcases List.mem_cons.1 h with rfl | h
    · omega
    · have := ih h; omega
theorem used_len (xs : List Thing) : xs.length * 8 ≤ used xs := by
  induction xs with
  | nil => simp [used]
  | cons x xs ih => simp only [used, List.map_cons, List.sum_cons, List.length_cons, cost] at *; omega

/-- a slice of bytes that lies outside block T -/
def BytesOut (w : World) (T : Nat) (B : Option Addr) (k : Nat) (l : List UInt8) : Prop := Reads w B (bytesV l) ∧ ((B = none → k = 0) ∧ l.length ≤ k) ∧ (l ≠ [] → ∀ bd, B = some bd → bd.block ≠ T)
/-- items that lie outside block T -/
def Items (w : World) (T : Nat) (A : Option Addr) (xs : List Thing) : Prop :=
  ∀ i (h : i < xs.length), ∃ ad, A = some ad ∧ ad.block ≠ T ∧ w.cell? (ad.add (2 * i)) = some (.bool xs[i].1) ∧
    ∃ B k, w.cell? (ad.add (2 * i + 1)) = some (.slice B xs[i].2.length k) ∧ BytesOut w T B k xs[i].2

/-- all blocks but T are as they were -/
def Rest (T : Nat) (w w' : World) : Prop := ∀ b, b < w.heap.size → b ≠ T → w'.heap[b]? = w.heap[b]?
theorem add_block (ad : Addr) (i : Nat) : (ad.add i).block = ad.block := by unfold Addr.add; split <;> rfl
theorem add_off (ad : Addr) (i : Nat) : (ad.add i).off = ad.off + i := by unfold Addr.add; split <;> simp_all
theorem add_one' (ad : Addr) (i : Nat) : ad.add (i + 1) = ⟨(ad.add i).block, (ad.add i).off + 1, none⟩ := by rw [add_block, add_off]; simp [Addr.add]; omega
theorem Rest.cell {T : Nat} {w w' : World} (h : Rest T w w') {p : Addr} {v : Value} (hc : w.cell? p = some v) (hp : p.block ≠ T) : w'.cell? p = some v :=
  (World.cell?_of_block (w := w) (h _ (World.block_lt_of_cell? w _ hc) hp)).trans hc
theorem Rest.below {T : Nat} {w w' : World} (h : Below w.heap.size w w') : Rest T w w' := fun b hb _ => h.block b hb
theorem Rest.trans {T : Nat} {a b c : World} (h : Rest T a b) (hs : a.heap.size ≤ b.heap.size) (k : Rest T b c) : Rest T a c := fun x hx hT => (k x (Nat.lt_of_lt_of_le hx hs) hT).trans (h x hx hT)
theorem BytesOut.keep {w w' : World} {T : Nat} {B : Option Addr} {k : Nat} {l : List UInt8} (h : BytesOut w T B k l) (r : Rest T w w') : BytesOut w' T B k l :=
  ⟨⟨h.1.1, fun i hi => by obtain ⟨ad, e, hc⟩ := h.1.2 i hi; exact ⟨ad, e, r.cell hc (by rw [add_block]; exact h.2.2 (by rintro rfl; simp [bytesV] at hi) ad e)⟩⟩, h.2⟩
theorem Items.keep {w w' : World} {T : Nat} {A : Option Addr} {xs : List Thing} (h : Items w T A xs) (r : Rest T w w') : Items w' T A xs := fun i hi => by
  obtain ⟨ad, e, ho, hc, B, k, hc2, hb⟩ := h i hi
  exact ⟨ad, e, ho, r.cell hc (by rw [add_block]; exact ho), B, k, r.cell hc2 (by rw [add_block]; exact ho), hb.keep r⟩

/-- a tape in memory -/
structure IsTape (w : World) (T : Nat) (cap : Nat) (xs : List Thing) (safe : Nat) (A : Option Addr) (c : Nat) : Prop where
  blk : w.heap[T]? = some (.cells #[.int .i64 cap, .slice A xs.length c, .int .i64 safe, .int .i64 (used xs)] 58 (0, 0))
  items : Items w T A xs
  nil : A = none → c = 0
  fits : used xs ≤ cap
  small : cap ≤ 16777216
  safe : safe ≤ xs.length
  room : xs.length ≤ c
section
variable {w : World} {T cap safe c : Nat} {xs : List Thing} {A : Option Addr}
theorem IsTape.c0 (h : IsTape w T cap xs safe A c) : w.cell? ⟨T, 0, none⟩ = some (.int .i64 cap) := by rw [cell_of_row w T 0 _ _ _ h.blk]; rfl
theorem IsTape.c1 (h : IsTape w T cap xs safe A c) : w.cell? ⟨T, 1, none⟩ = some (.slice A xs.length c) := by rw [cell_of_row w T 1 _ _ _ h.blk]; rfl
theorem IsTape.c2 (h : IsTape w T cap xs safe A c) : w.cell? ⟨T, 2, none⟩ = some (.int .i64 safe) := by rw [cell_of_row w T 2 _ _ _ h.blk]; rfl
theorem IsTape.c3 (h : IsTape w T cap xs safe A c) : w.cell? ⟨T, 3, none⟩ = some (.int .i64 (used xs)) := by rw [cell_of_row w T 3 _ _ _ h.blk]; rfl
theorem IsTape.fr (h : IsTape w T cap xs safe A c) (j : Nat) : w.frozen? ⟨T, j, none⟩ = false := frozen_of_row w T j _ _ h.blk
theorem IsTape.lt (h : IsTape w T cap xs safe A c) : T < w.heap.size := (Array.getElem?_eq_some_iff.1 h.blk).1
theorem IsTape.below {w' : World} (h : IsTape w T cap xs safe A c) (b : Below w.heap.size w w') : IsTape w' T cap xs safe A c := ⟨by rw [b.block T h.lt]; exact h.blk, h.items.keep (Rest.below b), h.nil, h.fits, h.small, h.safe, h.room⟩
end

set_option maxRecDepth 100000 in
theorem new_yes (n : Nat) (w : World) (hn : n ≤ 16777216) :
    Calls Try.prog 9 #[.int .i64 n] w fun e w' => e = .returned (.pointer (some ⟨w.heap.size, 0, none⟩)) ∧ w' = w.alloc (.cells #[.int .i64 n, .slice none 0 0, .int .i64 0, .int .i64 0] 58) := by
  go_enter Try.func9, Try.ntmps9
  go_wp2
  go_ret
  exact ⟨rfl, rfl⟩
set_option maxRecDepth 100000 in
theorem new_no (n : Int) (w : World) (hn : n < 0 ∨ 16777216 < n) :
    Calls Try.prog 9 #[.int .i64 n] w fun e w' => e = .returned (.pointer none) ∧ w = w' := by
  by_cases h : n < 0
  · go_enter Try.func9, Try.ntmps9
    go_wp2
    go_ret
    exact ⟨rfl, rfl⟩
  · have h2 : 16777216 < n := by omega
    clear hn
    go_enter Try.func9, Try.ntmps9
    go_wp2
    go_ret
    exact ⟨rfl, rfl⟩
theorem tape_new (w : World) (n : Nat) (hn : n ≤ 16777216) : IsTape (w.alloc (.cells #[.int .i64 n, .slice none 0 0, .int .i64 0, .int .i64 0] 58)) w.heap.size n [] 0 none 0 :=
  ⟨block_new w _, fun i hi => absurd hi (by simp), fun _ => rfl, by simp [used], hn, Nat.le_refl _, Nat.le_refl _⟩

/-! a tape that is not there -/
set_option maxRecDepth 100000 in
theorem len_nil (w : World) : Calls Try.prog 18 #[.pointer none] w fun e w' => e = .returned (.int .i64 0) ∧ w' = w := by
  go_enter Try.func18, Try.ntmps18
  go_wp2
  all_goals go_ret
  all_goals exact ⟨rfl, rfl⟩
set_option maxRecDepth 100000 in
theorem safe_nil (w : World) : Calls Try.prog 15 #[.pointer none] w fun e w' => e = .returned (.int .i64 0) ∧ w' = w := by
  go_enter Try.func15, Try.ntmps15
  go_wp2
  all_goals go_ret
  all_goals exact ⟨rfl, rfl⟩
set_option maxRecDepth 100000 in
theorem room_nil (w : World) : Calls Try.prog 16 #[.pointer none] w fun e w' => e = .returned (.int .i64 0) ∧ w' = w := by
  go_enter Try.func16, Try.ntmps16
  go_wp2
  all_goals go_ret
  all_goals exact ⟨rfl, rfl⟩
set_option maxRecDepth 100000 in
theorem early_nil (w : World) : Calls Try.prog 19 #[.pointer none] w fun e w' => e = .returned (.bool false) ∧ ∃ m, w' = w.drewN m := by
  go_enter Try.func19, Try.ntmps19
  go_wp2
  go_quiet (fail)
  go_wp2
  go_ret
  exact ⟨rfl, _, rfl⟩
set_option maxRecDepth 100000 in
theorem copy_nil (w : World) : Calls Try.prog 26 #[.pointer none] w fun e w' => e = .returned (.pointer none) ∧ w' = w := by
  go_enter Try.func26, Try.ntmps26
  go_wp2
  all_goals go_ret
  all_goals exact ⟨rfl, rfl⟩
set_option maxRecDepth 100000 in
theorem sync_nil (w : World) : Calls Try.prog 21 #[.pointer none] w fun e w' => (∃ v, e = .returned v) ∧ w' = w := by
  go_enter Try.func21, Try.ntmps21
  go_wp2
  go_end0
  exact ⟨⟨_, rfl⟩, rfl⟩
set_option maxRecDepth 100000 in
theorem crash_nil (a b : Int) (w : World) : Calls Try.prog 22 #[.pointer none, .int .i64 a, .int .i64 b] w fun e w' => (∃ v, e = .returned v) ∧ w' = w := by
  go_enter Try.func22, Try.ntmps22
  go_wp2
  all_goals refine bodyPost_ret (results_none rfl _ _ _) rfl ⟨⟨_, rfl⟩, rfl⟩
set_option maxRecDepth 100000 in
theorem cut_nil (a : Int) (w : World) : Calls Try.prog 25 #[.pointer none, .int .i64 a] w fun e w' => e = .returned (.int .i64 1) ∧ w' = w := by
  go_enter Try.func25, Try.ntmps25
  go_wp2
  all_goals go_ret
  all_goals exact ⟨rfl, rfl⟩

/-- a row of the call's own, read: where it lies -/
theorem own_reads_at {w : World} {base n : Nat} {e : TypeId} {v : Value} {xs : List Value} (h : w.ownsRow base e 1 v n xs) (hn : n ≤ 9223372036854775807) :
    ∃ A c, v = .slice A xs.length c ∧ Reads w A xs ∧ ((A = none → c = 0) ∧ xs.length ≤ c) ∧ ∀ bd, A = some bd → base ≤ bd.block ∧ ∃ cs, w.heap[bd.block]? = some (.cells cs e (0, 0)) := by
  have hl : xs.length = n := by have := h.1; simp at this; exact this
  rcases h.2 with ⟨rfl, rfl⟩ | ⟨g, cap, cur, rfl, hb, hg, hnc, _, _, ht⟩
  · obtain rfl := List.eq_nil_of_length_eq_zero hl
    exact ⟨none, 0, rfl, ⟨by simp, fun i hi => by simp at hi⟩, ⟨fun _ => rfl, by simp⟩, fun _ h => by cases h⟩
  · refine ⟨some ⟨g, 0, none⟩, cap, by rw [hl], ⟨by omega, fun i hi => ⟨_, rfl, ?_⟩⟩, ⟨fun h => (by cases h), by omega⟩, fun bd h => (by cases h; exact ⟨hb, cur, hg⟩)⟩
    exact h.cells (g := g) rfl i _ (by simp [hi])

theorem info5 : (Try.prog.info? 5).map (fun i => (i.zero, i.size, i.bytes)) = some (some (.int .u8 0), 1, 1) := by kernel_rfl
set_option maxHeartbeats 400000 in
set_option maxRecDepth 100000 in
theorem clone_any (B : Option Addr) (k : Nat) (l : List UInt8) (w : World) (h : Reads w B (bytesV l)) (hk : B = none → k = 0) (hn : l.length ≤ 20000000) :
    Calls Try.prog 32 #[.slice B l.length k] w fun e w' => ∃ B' k', e = .returned (.slice B' l.length k') ∧ Reads w' B' (bytesV l) ∧ ((B' = none → k' = 0) ∧ l.length ≤ k') ∧ (∀ bd, B' = some bd → w.heap.size ≤ bd.block ∧ ∃ cs, w'.heap[bd.block]? = some (.cells cs 5 (0, 0))) ∧ Below w.heap.size w w' := by
  cases B with
  | none =>
    have hl : l = [] := by
      cases l with
      | nil => rfl
      | cons y l => obtain ⟨ad, e, _⟩ := h.2 0 (by simp [bytesV]); cases e
    subst hl
    obtain rfl := hk rfl
    have heq := Lib.run_eql_slice_nil (P := Try.prog) w 30 5 none 0 0 0 0 Try.underlying30
    clear h hk
    go_enter Try.func32, Try.ntmps32
    go_wp2
    go_ret
    exact ⟨none, 0, rfl, ⟨by simp [bytesV], fun i hi => by simp [bytesV] at hi⟩, ⟨fun _ => rfl, by simp⟩, fun _ h => (by cases h), Below.refl _ _⟩
  | some g =>
    have heq := Lib.run_eql_slice_nil (P := Try.prog) w 30 5 (some g) l.length k 0 0 Try.underlying30
    have HR := hid h
    clear h hk
    go_enter Try.func32, Try.ntmps32
    go_wp2_with (at_builtin; refine wpList_append_reads rfl (.tmp 5) (.tmp 6) 30 5 (.int .u8 0) 1 rfl Try.underlying30 info5 rfl w.heap.size _ 0 [] rfl (World.ownsRow_made w #[] 0 (Nat.le_refl _) (by decide) rfl) (some g) l.length (bytesV l) k rfl ?c1 ?c2 ?c3 ?c4 ?c5 ?c6 ?c7 ?_)
    case c1 => simp [bytesV]
    case c2 => exact HR.out.below (below_new _ _)
    case c3 => intro e; cases e
    case c4 => intro u hu; simp [bytesV] at hu; obtain ⟨y, _, rfl⟩ := hu; rfl
    case c5 => unfold maxLen; omega
    case c6 => omega
    case c7 => simp
    intro v1 w1 o1 g1 f1
    have b1 : Below w.heap.size w w1 := (below_new w (.cells #[] 5)).grown g1 (by simp) (by intro k hk; simp [Value.ownBlock] at hk; omega)
    obtain ⟨A1, c1, hv, hr, hn1, hb1⟩ := own_reads_at o1 (by omega)
    rw [bytesV_length] at hv hn1
    rw [hv]
    have HR1 := hid hr
    have HN1 := hid hn1
    have HB1 := hid hb1
    have B1 := hid b1
    clear o1 g1 f1 b1 hv hr hn1 hb1
    go_wp2
    go_ret
    exact ⟨_, _, rfl, HR1.out, HN1.out, HB1.out, B1.out⟩

set_option maxRecDepth 100000 in
theorem put_nil (b : Bool) (v : Value) (w : World) : Calls Try.prog 33 #[.pointer none, .agg #[.bool b, v]] w fun e w' => e = .returned (.int .i64 1) ∧ Below w.heap.size w w' := by
  go_enter Try.func33, Try.ntmps33
  go_wp2
  all_goals go_ret
  all_goals exact ⟨rfl, by go_grown⟩
set_option maxRecDepth 100000 in
theorem mark_nil (w : World) : Calls Try.prog 24 #[.pointer none] w fun e w' => e = .returned (.int .i64 1) ∧ Below w.heap.size w w' := by
  go_enter Try.func24, Try.ntmps24
  go_wp2_with fail
  refine (put_nil _ _ w).mono ?_
  rintro e w' ⟨rfl, hb⟩
  go_wp2
  go_ret
  exact ⟨rfl, hb⟩
set_option maxRecDepth 100000 in
theorem append_nil (B : Option Addr) (k : Nat) (l : List UInt8) (w : World) (h : Reads w B (bytesV l)) (hk : B = none → k = 0) (hn : l.length ≤ 20000000) :
    Calls Try.prog 23 #[.pointer none, .slice B l.length k] w fun e w' => e = .returned (.int .i64 1) ∧ Below w.heap.size w w' := by
  have H := hid h
  have HK := hid hk
  clear h hk
  go_enter Try.func23, Try.ntmps23
  go_wp2_with fail
  refine (clone_any B k l w H.out HK.out hn).mono ?_
  rintro e w1 ⟨B', k', rfl, _, _, _, b1⟩
  have B1 := hid b1
  clear b1
  go_wp2_with fail
  refine (put_nil _ _ w1).mono ?_
  rintro e w' ⟨rfl, hb⟩
  have HB := hid hb
  clear hb
  go_wp2
  go_ret
  exact ⟨rfl, below_trans B1.out HB.out⟩
end Go.Proofs.Ythieemfcmehdiaa
