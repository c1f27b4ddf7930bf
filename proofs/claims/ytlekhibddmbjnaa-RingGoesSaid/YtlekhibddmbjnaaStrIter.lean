/- PRINTED BY wip/strring.py: the iterators of the ring of strings. -/
import Derived.Test.YtlekhibddmbjnaaIter
import Derived.Test.YtlekhibddmbjnaaStrPut
namespace Go.Proofs.Ytlekhibddmbjnaa.Str
open Go.RowKit Go.Shelf
attribute [local go_sem] Oper.semAt_some

theorem olds_at (room : Nat) (xs : List ByteArray) (k : Nat) (hk : k < (olds room xs).length) : aged room xs (((min xs.length room : Nat) : Int) - 1 - k) = some (olds room xs)[k] := by
  have hl := olds_length room xs
  unfold aged
  rw [if_pos ⟨by omega, by omega, by omega⟩]
  have e : xs.length - 1 - (((min xs.length room : Nat) : Int) - 1 - (k : Int)).toNat = xs.length - min xs.length room + k := by omega
  rw [e, List.getElem?_eq_getElem (by omega)]
  congr 1
  simp [olds]

set_option maxRecDepth 100000 in
set_option maxHeartbeats 1000000 in
theorem old1_stops (n : Nat) (hn : 3 ≤ n) {B : Nat} {w : World} {R : Nat} {v : Value} {room : Nat} {xs : List ByteArray} (h : IsRing 55 9 Value.string B w R v room xs) (Bp : Nat) (hBp : w.cell? ⟨Bp, 0, none⟩ = some (.pointer (some ⟨R, 0, none⟩)))
    (hr : room ≤ 65536) (hm : xs.length ≤ 1000000) :
    SeqStopsK Fence.wide n Try.prog 30 #[.pointer (some ⟨Bp, 0, none⟩)] (fun x : ByteArray => #[Value.string x]) (KeepB (Bp :: feet R v)) (fun ys => ys = olds room xs) (fun pre => pre <+: olds room xs) (min xs.length room) w := by
  intro l J Jx W hW hJ hJx hY h0
  have hlW : Bp < w.heap.size := World.block_lt_of_cell? w _ hBp
  have HR := hid (h.kept (Touch.of_below hW []) (by simp))
  have hB := (hW.cell (p := ⟨Bp, 0, none⟩) hlW).trans hBp
  have HW := hid hW
  have HY := hid hY
  have HJ := hid hJ
  clear h hBp hW hY hJ
  refine callsIn_of_wp Try.func30 rfl trivial ?_ rfl
  simp only [Try.ntmps30, List.size_toArray, List.length_cons, List.length_nil, Nat.reduceAdd, Nat.reduceSub, Array.replicate_succ, Array.replicate_zero, List.push_toArray, List.append_toArray, List.nil_append, List.cons_append]
  gi_wp2_with fail
  refine ⟨trivial, fun _ => by omega, ?_⟩
  refine (callsIn_wide.2 (len_any HR.out)).mono ?_
  rintro e w1 ⟨rfl, rfl⟩
  obtain ⟨N, hN⟩ : ∃ N, min xs.length room = N := ⟨_, rfl⟩
  have hNle : N ≤ 65536 := by omega
  rw [hN]
  have HN := hid hN
  clear hN
  gi_wp2
  gi_loopw [3] (fun i wr => ∃ k : Nat, k ≤ N ∧ i = .int .i64 ((N : Int) - 1 - k) ∧ Hid (J ((olds room xs).take k) wr) ∧ Hid (KeepB (Bp :: feet R v) W wr)) (fun i _ => (intOf i + 1).toNat)
  case atStart => exact ⟨0, Nat.zero_le _, by simp, hid h0, hid (KeepB.refl _ _)⟩
  case round =>
    obtain ⟨k, hk, rfl, HJk, HK⟩ := hrel
    by_cases hlt : k < N
    · have hge : (0 : Int) ≤ (N : Int) - 1 - k := by omega
      have hR2 := HR.out.keepB HK.out (by intro x hx; simp [hx])
      have hBc : wr.cell? ⟨Bp, 0, none⟩ = some (.pointer (some ⟨R, 0, none⟩)) := (World.cell?_of_block (w := W) (HK.out Bp (by simp))).trans hB
      gi_wp2_with fail
      refine ⟨trivial, fun _ => by omega, ?_⟩
      refine (callsIn_wide.2 (at_any hR2 _ hr hm)).mono ?_
      rintro e w2 ⟨rfl, md, hmd⟩
      have h2 := Calm.of_drewN wr md
      rw [← hmd] at h2
      clear hmd
      have hlen : k < (olds room xs).length := by rw [olds_length, HN.out]; exact hlt
      obtain ⟨x, hx⟩ : ∃ x, (olds room xs)[k] = x := ⟨_, rfl⟩
      have hag := olds_at room xs k hlen
      rw [HN.out, hx] at hag
      rw [hag, show told (some x) = .tuple #[.string x, .bool true] from rfl]
      have hJ2 := HJ.out _ _ _ none HJk.out (calm_grown h2) (fun r e => by cases e)
      have HK2 := hid (HK.out.trans (KeepB.calm (S := Bp :: feet R v) h2))
      obtain ⟨fn, tmps, assign, body, hy, hR⟩ := HY.out _ x w2 hJ2 (by rw [List.length_take, HN.out]; omega)
      have hsn : (olds room xs).take k ++ [x] = (olds room xs).take (k + 1) := by rw [take_snoc hlen, hx]
      rw [hsn] at hR
      clear hag hx hJ2 h2 hR2 hBc HJk HK hsn
      gi_wp2
      refine ⟨fun _ => by omega, hR.mono ?_⟩
      rintro e W3 (⟨rfl, hJ3, hk3⟩ | ⟨rfl, hJx3⟩)
      · have HK3 := hid (HK2.out.trans hk3)
        have HJ3 := hid hJ3
        clear hJ3 hk3
        gi_wp2
        go_roundw
        case rel => exact ⟨k + 1, by omega, by go_num, HJ3, HK3⟩
        case measure => simp [intOf]; omega
      · have HJx3 := hid hJx3
        clear hJx3
        gi_wp2
        refine bodyPost_ret (results_none rfl _ _ _) rfl ?_
        exact ⟨⟨_, rfl⟩, .inr ⟨_, List.take_prefix _ _, HJx3.out⟩⟩
    · have hge : ¬ (0 : Int) ≤ (N : Int) - 1 - k := by omega
      have htk : (olds room xs).take k = olds room xs := List.take_of_length_le (by rw [olds_length, HN.out]; omega)
      rw [htk] at HJk
      clear htk
      gi_wp2
      go_end0
      exact ⟨⟨_, rfl⟩, .inl HJk.out⟩

set_option maxHeartbeats 400000 in
set_option maxRecDepth 100000 in
theorem old_any (p : Option Addr) (w : World) :
    Calls Try.prog 24 #[.pointer p] w fun e w' => e = .returned (.func (.func 30) #[] #[.pointer (some ⟨w.heap.size, 0, none⟩)]) ∧ w' = w.alloc (.cells #[.pointer p] 38) := by
  go_enter Try.func24, Try.ntmps24
  go_wp2
  go_ret
  exact ⟨rfl, rfl⟩
set_option maxHeartbeats 400000 in
set_option maxRecDepth 100000 in
theorem all_any (p : Option Addr) (w : World) :
    Calls Try.prog 22 #[.pointer p] w fun e w' => e = .returned (.func (.func 29) #[] #[.pointer (some ⟨w.heap.size, 0, none⟩)]) ∧ w' = w.alloc (.cells #[.pointer p] 38) := by
  go_enter Try.func22, Try.ntmps22
  go_wp2
  go_ret
  exact ⟨rfl, rfl⟩
end Go.Proofs.Ytlekhibddmbjnaa.Str
