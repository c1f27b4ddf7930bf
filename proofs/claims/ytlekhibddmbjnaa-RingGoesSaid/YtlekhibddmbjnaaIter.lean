/- The iterators Old and All of a ring of ints, as contracts for whatever loop body. -/
import Derived.RangeFuncNested
import Derived.RangeFuncBound
import Derived.RangeFuncCalls
import Derived.RangeFuncLeaves
import Derived.Shelf.Abstract
import Derived.Shelf.RegionOpen
import Derived.WalkKit
import Derived.OwnWalkIn
import Derived.TacticsInMore
import Derived.LoopNIn
import Derived.LoopIn
import Derived.Test.YtlekhibddmbjnaaLaws
namespace Go.Proofs.Ytlekhibddmbjnaa
open Go.RowKit Go.Shelf
attribute [local go_sem] Oper.semAt_some

/-- the named blocks are as they were -/
def KeepB (S : List Nat) (W W' : World) : Prop := ∀ b ∈ S, W'.heap[b]? = W.heap[b]?
theorem KeepB.trans {S : List Nat} {a b c : World} (h : KeepB S a b) (k : KeepB S b c) : KeepB S a c := fun x hx => (k x hx).trans (h x hx)
theorem KeepB.refl (S : List Nat) (a : World) : KeepB S a a := fun _ _ => rfl
theorem KeepB.calm {S : List Nat} {a b : World} (h : Calm a b) : KeepB S a b := fun x _ => by rw [h.heap]
theorem IsRing.keepB {S e : TypeId} {α : Type} {mk : α → Value} {B : Nat} {w w' : World} {R : Nat} {v : Value} {room : Nat} {xs : List α} {T : List Nat} (h : IsRing S e mk B w R v room xs) (k : KeepB T w w') (hT : ∀ x ∈ feet R v, x ∈ T) : IsRing S e mk B w' R v room xs := by
  refine ⟨by rw [k R (hT R (by simp [feet]))]; exact h.blk, ⟨h.row.1, ?_⟩, h.ge, h.ne⟩
  rcases h.row.2 with hn | ⟨g, cap, cur, rfl, hb, hgg, rest⟩
  · exact .inl hn
  · exact .inr ⟨g, cap, cur, rfl, hb, by rw [k g (hT g (by simp [feet, Value.ownBlock]))]; exact hgg, rest⟩
theorem calm_grown {a b : World} (h : Calm a b) : a.grownBy b none := ⟨h.os, h.tape, h.output, by rw [h.heap]; exact Nat.le_refl _, fun k _ _ => by rw [h.heap]⟩

/-- the temporaries behind the assignment to the loop's left sides -/
def leftSides {α : Type} (ts : List (Tmp × (α → Value))) (ps : Array Tmp) (encs : α → Array Value) (tmps : Array Value) (x : α) : Act :=
  { tmps := ts.foldl (fun t q => t.setIfInBounds q.1 (q.2 x)) ((ps.zip (encs x)).foldl (fun t (p, v) => t.setIfInBounds p v) tmps), defers := [] }
/-- the law of the range over a function, the left sides told by their slots -/
theorem rangeFunc_F {F : Fence} {n : Nat} {P : Program} {α : Type} {g : Operand} {ps : Array Tmp} {assign body : Code} {Q : Exit → Act → World → Prop} {a : Act} {w : World}
    (hro : F.round = none) (h1 : 1 ≤ n) {gf : Nat} {lb : Array Value} (hg : a.eval g = .func (.func gf) #[] lb) (hFg : F.fn gf) (eg : ∀ args w, (callFunc gf args).run P w = .ok (.enter gf args) w)
    {encs : α → Array Value} {Kp : World → World → Prop} {S Sp : List α → Prop} {N : Nat} {w0 : World} (hseq : SeqStopsK F (n - 1) P gf lb encs Kp S Sp N w0)
    (hKt : ∀ {A B C : World}, Kp A B → Kp B C → Kp A C) (hKb : ∀ (W : World) (l : Nat) (o o' : Obj), w.heap.size ≤ l → W.heap[l]? = some o → o.isCells = false → o.isWalk = false → Kp W (W.putObj l o')) (hb0 : Below w0.heap.size w0 w) (hps : ∀ x, (encs x).size = ps.size)
    (I : List α → World → Prop) (Ix : Code → List α → World → Prop) (hI : OwnFrom w.heap.size I) (hIx : ∀ c, OwnFrom w.heap.size (Ix c)) (h0 : I [] w) (ts : List (Tmp × (α → Value)))
    (hassign : ∀ (l : Nat) (x : α) (W : World) (K : Act → World → Prop), K (leftSides ts ps encs a.tmps x) W →
      assign.wpIn (F.inRound l) (n - 1 - 1) P (Exit.then K (fun _ _ _ => False)) { tmps := (ps.zip (encs x)).foldl (fun t (p, v) => t.setIfInBounds p v) a.tmps, defers := [] } W)
    (hbody : ∀ (l : Nat) (pre : List α) (x : α) (W : World), I pre W → pre.length < N → body.wpIn (F.inRound l) (n - 1 - 1) P (ownPostK Kp I Ix (pre ++ [x]) W) (leftSides ts ps encs a.tmps x) W)
    (hdone : ∀ (D : Nat) (xs : List α) (W : World), w.heap.size ≤ D → S xs → I xs W → W.heap[D]? = some (.deferred (some [])) → Q .normal { a with defers := { target := .collected D, args := #[] } :: a.defers } W)
    (hstop : ∀ (D : Nat) (c : Code) (pre : List α) (W : World), w.heap.size ≤ D → Sp pre → Ix c pre W → W.heap[D]? = some (.deferred (some [])) → c.wpIn F n P Q { a with defers := { target := .collected D, args := #[] } :: a.defers } W) :
    (Code.rangeFunc g ps assign body).wpIn F n P Q a w :=
  wpIn_rangeFunc_ownF hro h1 hg hFg eg hseq hKt hKb hb0 hps I Ix hI hIx h0 (leftSides ts ps encs a.tmps) hassign hbody hdone hstop
theorem keepB_b {S : List Nat} {w : World} (hS : ∀ x ∈ S, x < w.heap.size) : ∀ (W : World) (l : Nat) (o o' : Obj), w.heap.size ≤ l → W.heap[l]? = some o → o.isCells = false → o.isWalk = false → KeepB S W (W.putObj l o') :=
  fun W l _ _ hl _ _ _ b hb => World.putObj_heap_other (fun e => by have := hS b hb; omega)
theorem KeepB.setCell {S : List Nat} (w : World) (a : Addr) (u : Value) (h : a.block ∉ S) : KeepB S w (w.setCell a u) := fun _ hx => Below.heap_setCell _ _ _ _ (fun e => h (e ▸ hx))

/-- the oldest first -/
def olds {α : Type} (room : Nat) (xs : List α) : List α := xs.drop (xs.length - min xs.length room)
theorem olds_length {α : Type} (room : Nat) (xs : List α) : (olds room xs).length = min xs.length room := by simp [olds]; omega
theorem olds_at (room : Nat) (xs : List Int) (k : Nat) (hk : k < (olds room xs).length) : aged room xs (((min xs.length room : Nat) : Int) - 1 - k) = some (olds room xs)[k] := by
  have hl := olds_length room xs
  unfold aged
  rw [if_pos ⟨by omega, by omega, by omega⟩]
  have e : xs.length - 1 - (((min xs.length room : Nat) : Int) - 1 - (k : Int)).toNat = xs.length - min xs.length room + k := by omega
  rw [e, List.getElem?_eq_getElem (by omega)]
  congr 1
  simp [olds]

set_option maxRecDepth 100000 in
set_option maxHeartbeats 1000000 in
theorem old1_stops (n : Nat) (hn : 3 ≤ n) {B : Nat} {w : World} {R : Nat} {v : Value} {room : Nat} {xs : List Int} (h : IsRing 52 3 (Value.int .i64) B w R v room xs) (Bp : Nat) (hBp : w.cell? ⟨Bp, 0, none⟩ = some (.pointer (some ⟨R, 0, none⟩)))
    (hr : room ≤ 65536) (hm : xs.length ≤ 1000000) :
    SeqStopsK Fence.wide n Try.prog 27 #[.pointer (some ⟨Bp, 0, none⟩)] (fun x : Int => #[Value.int .i64 x]) (KeepB (Bp :: feet R v)) (fun ys => ys = olds room xs) (fun pre => pre <+: olds room xs) (min xs.length room) w := by
  intro l J Jx W hW hJ hJx hY h0
  have hlW : Bp < w.heap.size := World.block_lt_of_cell? w _ hBp
  have HR := hid (h.kept (Touch.of_below hW []) (by simp))
  have hB := (hW.cell (p := ⟨Bp, 0, none⟩) hlW).trans hBp
  have HW := hid hW
  have HY := hid hY
  have HJ := hid hJ
  clear h hBp hW hY hJ
  refine callsIn_of_wp Try.func27 rfl trivial ?_ rfl
  simp only [Try.ntmps27, List.size_toArray, List.length_cons, List.length_nil, Nat.reduceAdd, Nat.reduceSub, Array.replicate_succ, Array.replicate_zero, List.push_toArray, List.append_toArray, List.nil_append, List.cons_append]
  gi_wp2_with fail
  refine ⟨trivial, fun _ => by omega, ?_⟩
  refine (callsIn_wide.2 (len_any HR.out)).mono ?_
  rintro e w1 ⟨rfl, rfl⟩
  obtain ⟨N, hN⟩ : ∃ N, min xs.length room = N := ⟨_, rfl⟩
  have hNle : N ≤ 65536 := by omega
  rw [hN]
  have HN := hid hN
  clear hN
  gi_wp2
  gi_loopw [3] (fun i wr => ∃ k : Nat, k ≤ N ∧ i = .int .i64 ((N : Int) - 1 - k) ∧ Hid (J ((olds room xs).take k) wr) ∧ Hid (KeepB (Bp :: feet R v) W wr)) (fun i _ => (intOf i + 1).toNat)
  case atStart => exact ⟨0, Nat.zero_le _, by simp, hid h0, hid (KeepB.refl _ _)⟩
  case round =>
    obtain ⟨k, hk, rfl, HJk, HK⟩ := hrel
    by_cases hlt : k < N
    · have hge : (0 : Int) ≤ (N : Int) - 1 - k := by omega
      have hR2 := HR.out.keepB HK.out (by intro x hx; simp [hx])
      have hBc : wr.cell? ⟨Bp, 0, none⟩ = some (.pointer (some ⟨R, 0, none⟩)) := (World.cell?_of_block (w := W) (HK.out Bp (by simp))).trans hB
      gi_wp2_with fail
      refine ⟨trivial, fun _ => by omega, ?_⟩
      refine (callsIn_wide.2 (at_any hR2 _ hr hm)).mono ?_
      rintro e w2 ⟨rfl, h2⟩
      have hlen : k < (olds room xs).length := by rw [olds_length, HN.out]; exact hlt
      obtain ⟨x, hx⟩ : ∃ x, (olds room xs)[k] = x := ⟨_, rfl⟩
      have hag := olds_at room xs k hlen
      rw [HN.out, hx] at hag
      rw [hag, show told (some x) = .tuple #[.int .i64 x, .bool true] from rfl]
      have hJ2 := HJ.out _ _ _ none HJk.out (calm_grown h2) (fun r e => by cases e)
      have HK2 := hid (HK.out.trans (KeepB.calm (S := Bp :: feet R v) h2))
      obtain ⟨fn, tmps, assign, body, hy, hR⟩ := HY.out _ x w2 hJ2 (by rw [List.length_take, HN.out]; omega)
      have hsn : (olds room xs).take k ++ [x] = (olds room xs).take (k + 1) := by rw [take_snoc hlen, hx]
      rw [hsn] at hR
      clear hag hx hJ2 h2 hR2 hBc HJk HK hsn
      gi_wp2
      refine ⟨fun _ => by omega, hR.mono ?_⟩
      rintro e W3 (⟨rfl, hJ3, hk3⟩ | ⟨rfl, hJx3⟩)
      · have HK3 := hid (HK2.out.trans hk3)
        have HJ3 := hid hJ3
        clear hJ3 hk3
        gi_wp2
        go_roundw
        case rel => exact ⟨k + 1, by omega, by go_num, HJ3, HK3⟩
        case measure => simp [intOf]; omega
      · have HJx3 := hid hJx3
        clear hJx3
        gi_wp2
        refine bodyPost_ret (results_none rfl _ _ _) rfl ?_
        exact ⟨⟨_, rfl⟩, .inr ⟨_, List.take_prefix _ _, HJx3.out⟩⟩
    · have hge : ¬ (0 : Int) ≤ (N : Int) - 1 - k := by omega
      have htk : (olds room xs).take k = olds room xs := List.take_of_length_le (by rw [olds_length, HN.out]; omega)
      rw [htk] at HJk
      clear htk
      gi_wp2
      go_end0
      exact ⟨⟨_, rfl⟩, .inl HJk.out⟩

set_option maxHeartbeats 400000 in
set_option maxRecDepth 100000 in
theorem old_any (p : Option Addr) (w : World) :
    Calls Try.prog 18 #[.pointer p] w fun e w' => e = .returned (.func (.func 27) #[] #[.pointer (some ⟨w.heap.size, 0, none⟩)]) ∧ w' = w.alloc (.cells #[.pointer p] 23) := by
  go_enter Try.func18, Try.ntmps18
  go_wp2
  go_ret
  exact ⟨rfl, rfl⟩
set_option maxHeartbeats 400000 in
set_option maxRecDepth 100000 in
theorem all_any (p : Option Addr) (w : World) :
    Calls Try.prog 26 #[.pointer p] w fun e w' => e = .returned (.func (.func 31) #[] #[.pointer (some ⟨w.heap.size, 0, none⟩)]) ∧ w' = w.alloc (.cells #[.pointer p] 23) := by
  go_enter Try.func26, Try.ntmps26
  go_wp2
  go_ret
  exact ⟨rfl, rfl⟩
end Go.Proofs.Ytlekhibddmbjnaa
