/- The iterator All of a ring of strings; what its laws need besides. -/
import Derived.Test.YtlekhibddmbjnaaStrIter
import Derived.Sort.QuietIn
import Derived.Deep.RegionHeld
namespace Go.Proofs.Ytlekhibddmbjnaa.Str
open Go.RowKit Go.Shelf
attribute [local go_sem] Oper.semAt_some

/-- the newest first, with their ages -/
def news (room : Nat) (xs : List ByteArray) : List (Int × ByteArray) := (List.range (min xs.length room)).map fun (k : Nat) => ((k : Int), (xs[xs.length - 1 - k]?).getD ⟨#[]⟩)
theorem news_length (room : Nat) (xs : List ByteArray) : (news room xs).length = min xs.length room := by simp [news]
theorem news_fst (room : Nat) (xs : List ByteArray) (k : Nat) (hk : k < (news room xs).length) : (news room xs)[k].1 = k := by simp [news]
theorem news_at (room : Nat) (xs : List ByteArray) (k : Nat) (hk : k < (news room xs).length) : aged room xs (k : Int) = some (news room xs)[k].2 := by
  have hl := news_length room xs
  unfold aged
  rw [if_pos ⟨by omega, by omega, by omega⟩, Int.toNat_natCast]
  simp only [news, List.getElem_map, List.getElem_range]
  rw [List.getElem?_eq_getElem (by omega), Option.getD_some]

set_option maxRecDepth 100000 in
set_option maxHeartbeats 1000000 in
theorem all1_stops (n : Nat) (hn : 3 ≤ n) {B : Nat} {w : World} {R : Nat} {v : Value} {room : Nat} {xs : List ByteArray} (h : IsRing 55 9 Value.string B w R v room xs) (Bp : Nat) (hBp : w.cell? ⟨Bp, 0, none⟩ = some (.pointer (some ⟨R, 0, none⟩)))
    (hr : room ≤ 65536) (hm : xs.length ≤ 1000000) :
    SeqStopsK Fence.wide n Try.prog 29 #[.pointer (some ⟨Bp, 0, none⟩)] (fun x : Int × ByteArray => #[Value.int .i64 x.1, Value.string x.2]) (KeepB (Bp :: feet R v)) (fun ys => ys = news room xs) (fun pre => pre <+: news room xs) (min xs.length room) w := by
  intro l J Jx W hW hJ hJx hY h0
  have hlW : Bp < w.heap.size := World.block_lt_of_cell? w _ hBp
  have HR := hid (h.kept (Touch.of_below hW []) (by simp))
  have hB := (hW.cell (p := ⟨Bp, 0, none⟩) hlW).trans hBp
  have HW := hid hW
  have HY := hid hY
  have HJ := hid hJ
  clear h hBp hW hY hJ
  refine callsIn_of_wp Try.func29 rfl trivial ?_ rfl
  simp only [Try.ntmps29, List.size_toArray, List.length_cons, List.length_nil, Nat.reduceAdd, Nat.reduceSub, Array.replicate_succ, Array.replicate_zero, List.push_toArray, List.append_toArray, List.nil_append, List.cons_append]
  gi_wp2_with fail
  refine ⟨trivial, fun _ => by omega, ?_⟩
  refine (callsIn_wide.2 (len_any HR.out)).mono ?_
  rintro e w1 ⟨rfl, rfl⟩
  obtain ⟨N, hN⟩ : ∃ N, min xs.length room = N := ⟨_, rfl⟩
  have hNle : N ≤ 65536 := by omega
  rw [hN]
  have HN := hid hN
  clear hN
  gi_wp2
  gi_loopw [8] (fun i wr => ∃ k : Nat, k ≤ N ∧ i = .int .i64 k ∧ Hid (J ((news room xs).take k) wr) ∧ Hid (KeepB (Bp :: feet R v) W wr)) (fun i _ => N - (intOf i).toNat)
  case atStart => exact ⟨0, Nat.zero_le _, by simp, hid h0, hid (KeepB.refl _ _)⟩
  case round =>
    obtain ⟨k, hk, rfl, HJk, HK⟩ := hrel
    by_cases hlt : k < N
    · have hR2 := HR.out.keepB HK.out (by intro x hx; simp [hx])
      have hBc : wr.cell? ⟨Bp, 0, none⟩ = some (.pointer (some ⟨R, 0, none⟩)) := (World.cell?_of_block (w := W) (HK.out Bp (by simp))).trans hB
      gi_wp2_with fail
      refine ⟨trivial, fun _ => by omega, ?_⟩
      refine (callsIn_wide.2 (at_any hR2 _ hr hm)).mono ?_
      rintro e w2 ⟨rfl, md, hmd⟩
      have h2 := Calm.of_drewN wr md
      rw [← hmd] at h2
      clear hmd
      have hlen : k < (news room xs).length := by rw [news_length, HN.out]; exact hlt
      obtain ⟨x, hx⟩ : ∃ x, (news room xs)[k] = x := ⟨_, rfl⟩
      have hag := news_at room xs k hlen
      have hf1 := news_fst room xs k hlen
      rw [hx] at hag hf1
      rw [hag, show told (some x.2) = .tuple #[.string x.2, .bool true] from rfl]
      have hJ2 := HJ.out _ _ _ none HJk.out (calm_grown h2) (fun r e => by cases e)
      have HK2 := hid (HK.out.trans (KeepB.calm (S := Bp :: feet R v) h2))
      obtain ⟨fn, tmps, assign, body, hy, hR⟩ := HY.out _ x w2 hJ2 (by rw [List.length_take, HN.out]; omega)
      have hsn : (news room xs).take k ++ [x] = (news room xs).take (k + 1) := by rw [take_snoc hlen, hx]
      rw [hsn] at hR
      rw [hf1] at hy
      clear hag hx hJ2 h2 hR2 hBc HJk HK hsn hf1
      gi_wp2
      refine ⟨fun _ => by omega, hR.mono ?_⟩
      rintro e W3 (⟨rfl, hJ3, hk3⟩ | ⟨rfl, hJx3⟩)
      · have HK3 := hid (HK2.out.trans hk3)
        have HJ3 := hid hJ3
        clear hJ3 hk3
        gi_wp2
        go_roundw
        case rel => exact ⟨k + 1, by omega, by go_num, HJ3, HK3⟩
        case measure => simp [intOf]; omega
      · have HJx3 := hid hJx3
        clear hJx3
        gi_wp2
        refine bodyPost_ret (results_none rfl _ _ _) rfl ?_
        exact ⟨⟨_, rfl⟩, .inr ⟨_, List.take_prefix _ _, HJx3.out⟩⟩
    · have htk : (news room xs).take k = news room xs := List.take_of_length_le (by rw [news_length, HN.out]; omega)
      rw [htk] at HJk
      clear htk
      gi_wp2
      go_end0
      exact ⟨⟨_, rfl⟩, .inl ⟨_, rfl, HJk.out⟩⟩
end Go.Proofs.Ytlekhibddmbjnaa.Str
