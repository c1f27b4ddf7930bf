/- All of a tape as an iterator, told of what it yields. -/
import Derived.RangeFuncBound
import Derived.RangeFuncCalls
import Derived.Shelf.Abstract
import Derived.OwnWalkIn
import Derived.TacticsInMore
import Derived.LoopIn
import Derived.Deep.RegionHeld
import Derived.Test.YthieemfcmehdiaaRangeV
import Derived.Test.YthieemfcmehdiaaLastIn
import Derived.Test.YthieemfcmehdiaaAppend
import Derived.Test.YthieemfcmehdiaaNil
namespace Go.Proofs.Ythieemfcmehdiaa
open Go.RowKit Go.Shelf
attribute [local go_sem] Oper.semAt_some

/-- what a round gets: its number, the item, where the item's bytes lie -/
structure Got where
  k : Nat
  t : Thing
  B : Option Addr
  c : Nat
def Got.enc (x : Got) : Array Value := #[.int .i64 x.k, .agg #[.bool x.t.1, .slice x.B x.t.2.length x.c]]
def GotOk (xs : List Thing) (base : Nat) (pre : List Got) (W : World) (x : Got) : Prop :=
  x.k = pre.length ∧ xs[pre.length]? = some x.t ∧ Reads W x.B (bytesV x.t.2) ∧ ((x.B = none → x.c = 0) ∧ x.t.2.length ≤ x.c) ∧ ∀ bd, x.B = some bd → base ≤ bd.block ∧ ∃ cs, W.heap[bd.block]? = some (.cells cs 5 (0, 0))
def Home (T cap : Nat) (xs : List Thing) (safe : Nat) (A : Option Addr) (c Bp base : Nat) (W : World) : Prop :=
  IsTape W T cap xs safe A c ∧ W.cell? ⟨Bp, 0, none⟩ = some (.pointer (some ⟨T, 0, none⟩)) ∧ base ≤ W.heap.size
set_option linter.unusedSimpArgs false
set_option linter.unusedVariables false
set_option maxRecDepth 100000 in
set_option maxHeartbeats 4000000 in
theorem all1_iter (n : Nat) (hn : 3 ≤ n) {T cap safe c : Nat} {xs : List Thing} {A : Option Addr} (Bp base : Nat) :
    Iter n Try.prog 31 #[.pointer (some ⟨Bp, 0, none⟩)] Got.enc (GotOk xs base) (Home T cap xs safe A c Bp base) (fun ys => ys.length = xs.length) (fun _ => True) := by
  intro l J Jx W hJb hJxb hJh hY h0
  have H0 := hid (hJh _ _ h0)
  have HJ0 := hid h0
  have HJb := hid hJb
  have HJxb := hid hJxb
  have HJh := hid hJh
  have HY := hid hY
  have hB := H0.out.2.1
  clear h0 hJb hJxb hJh hY
  refine callsIn_of_wp Try.func31 rfl trivial ?_ rfl
  simp only [Try.ntmps31, List.size_toArray, List.length_cons, List.length_nil, Nat.reduceAdd, Nat.reduceSub, Array.replicate_succ, Array.replicate_zero, List.push_toArray, List.append_toArray, List.nil_append, List.cons_append]
  gi_wp2_with fail
  refine ⟨trivial, fun _ => by omega, ?_⟩
  refine (callsIn_wide.2 (len_any H0.out.1)).mono ?_
  rintro e w1 ⟨rfl, rfl⟩
  have hlen : xs.length ≤ 2097152 := by
    have h1 := H0.out.1.fits
    have h2 := H0.out.1.small
    have h3 := used_len xs
    omega
  clear hB
  gi_wp2
  gi_loopw [6] (fun i wr => ∃ pre : List Got, pre.length ≤ xs.length ∧ i = .int .i64 pre.length ∧ Hid (J pre wr)) (fun i _ => xs.length - (intOf i).toNat)
  case atStart => exact ⟨[], Nat.zero_le _, rfl, HJ0⟩
  case round =>
    obtain ⟨pre, hk, rfl, HJ⟩ := hrel
    obtain ⟨k, hkk⟩ : ∃ k, pre.length = k := ⟨_, rfl⟩
    have HKK := hid hkk
    rw [hkk] at hk ⊢
    by_cases hlt : k < xs.length
    · have dl : decide (k < xs.length) = true := by simpa using hlt
      have hH := HJh.out _ _ HJ.out
      have c1 := hH.1.c1
      have hcp := hH.2.1
      obtain ⟨ad, rfl, hado, i0, Bx, kx, i1, hbo⟩ := hH.1.items k hlt
      obtain ⟨x, hx⟩ : ∃ x, xs[k] = x := ⟨_, rfl⟩
      have HX : Hid (xs[k]? = some x) := hid (by rw [List.getElem?_eq_getElem hlt, hx])
      rw [hx] at i0 i1 hbo
      have HBO := hid hbo
      have hxl : x.2.length ≤ 20000000 := by
        have h1 := hH.1.fits
        have h2 := hH.1.small
        have h3 := used_mem (List.getElem_mem hlt)
        rw [hx] at h3
        unfold cost at h3
        omega
      have HBASE : Hid (base ≤ wr.heap.size) := hid hH.2.2
      rw [Nat.mul_comm] at i0
      have i1' : wr.cell? ⟨(ad.add (k * 2)).block, (ad.add (k * 2)).off + 1, none⟩ = some (.slice Bx x.2.length kx) := by rw [← add_one', Nat.mul_comm]; exact i1
      have hki : (k : Int) < (xs.length : Int) := by omega
      have hk0 : (0 : Int) ≤ (k : Int) := by omega
      clear hH hx hbo i1
      gi_wp2
      refine region_lastI 20 (fun w' => w'.cell? ⟨Bp, 0, none⟩ = some (.pointer (some ⟨T, 0, none⟩)) ∧ w'.cell? ⟨T, 1, none⟩ = some (.slice (some ad) xs.length c) ∧ w'.cell? (ad.add (k * 2)) = some (.bool x.1) ∧ w'.cell? ⟨(ad.add (k * 2)).block, (ad.add (k * 2)).off + 1, none⟩ = some (.slice Bx x.2.length kx)) (by kernel_rfl) ?_
      have hS : wr.drew.cell? ⟨Bp, 0, none⟩ = some (.pointer (some ⟨T, 0, none⟩)) ∧ wr.drew.cell? ⟨T, 1, none⟩ = some (.slice (some ad) xs.length c) ∧ wr.drew.cell? (ad.add (k * 2)) = some (.bool x.1) ∧ wr.drew.cell? ⟨(ad.add (k * 2)).block, (ad.add (k * 2)).off + 1, none⟩ = some (.slice Bx x.2.length kx) := ⟨hcp, c1, i0, i1'⟩
      refine take_lastI (i := 0) (v := ?_) (p := []) rfl (by kernel_rfl) (by kernel_rfl) (by kernel_rfl) (by kernel_rfl) (by kernel_rfl) (fun _ _ _ h => h) (Or.inl ⟨by rfl, ?_⟩) hS ?_
      rotate_left
      · (rintro w ⟨s1, s2, s3, s4⟩; go_simp; try with_reducible rfl)
      simp only [Act.put, List.setIfInBounds_toArray, List.set_cons_zero, List.set_cons_succ]
      refine take_lastI (i := 1) (v := ?_) (p := []) rfl (by kernel_rfl) (by kernel_rfl) (by kernel_rfl) (by kernel_rfl) (by kernel_rfl) (fun _ _ _ h => h) (Or.inl ⟨by rfl, ?_⟩) hS ?_
      rotate_left
      · (rintro w ⟨s1, s2, s3, s4⟩; go_simp; try with_reducible rfl)
      simp only [Act.put, List.setIfInBounds_toArray, List.set_cons_zero, List.set_cons_succ]
      refine take_lastI (i := 2) (v := ?_) (p := [3, 4, 5, 7, 8, 9, 19]) rfl (by kernel_rfl) (by kernel_rfl) (by kernel_rfl) (by kernel_rfl) (by kernel_rfl) (fun _ _ _ h => h) (Or.inl ⟨by rfl, ?_⟩) hS ?_
      rotate_left
      · (rintro w ⟨s1, s2, s3, s4⟩; go_simp; try with_reducible rfl)
      simp only [Act.put, List.setIfInBounds_toArray, List.set_cons_zero, List.set_cons_succ]
      refine take_lastI (i := 3) (v := ?_) (p := [4, 5, 7, 8, 9, 19]) rfl (by kernel_rfl) (by kernel_rfl) (by kernel_rfl) (by kernel_rfl) (by kernel_rfl) (fun _ _ _ h => h) (Or.inl ⟨by rfl, ?_⟩) hS ?_
      rotate_left
      · (rintro w ⟨s1, s2, s3, s4⟩; go_simp; try with_reducible rfl)
      simp only [Act.put, List.setIfInBounds_toArray, List.set_cons_zero, List.set_cons_succ]
      refine take_lastI (i := 4) (v := ?_) (p := [5, 7, 8, 9, 19]) rfl (by kernel_rfl) (by kernel_rfl) (by kernel_rfl) (by kernel_rfl) (by kernel_rfl) (fun _ _ _ h => h) (Or.inl ⟨by rfl, ?_⟩) hS ?_
      rotate_left
      · (rintro w ⟨s1, s2, s3, s4⟩; go_simp; try with_reducible rfl)
      simp only [Act.put, List.setIfInBounds_toArray, List.set_cons_zero, List.set_cons_succ]
      refine take_lastI (i := 5) (v := ?_) (p := [7, 8, 9, 19]) rfl (by kernel_rfl) (by kernel_rfl) (by kernel_rfl) (by kernel_rfl) (by kernel_rfl) (fun _ _ _ h => h) (Or.inl ⟨by rfl, ?_⟩) hS ?_
      rotate_left
      · (rintro w ⟨s1, s2, s3, s4⟩; go_simp; try with_reducible rfl)
      simp only [Act.put, List.setIfInBounds_toArray, List.set_cons_zero, List.set_cons_succ]
      refine take_lastI (i := 6) (v := ?_) (p := [7, 8, 9, 19]) rfl (by kernel_rfl) (by kernel_rfl) (by kernel_rfl) (by kernel_rfl) (by kernel_rfl) (fun _ _ _ h => h) (Or.inl ⟨by rfl, ?_⟩) hS ?_
      rotate_left
      · (rintro w ⟨s1, s2, s3, s4⟩; go_simp; try with_reducible rfl)
      simp only [Act.put, List.setIfInBounds_toArray, List.set_cons_zero, List.set_cons_succ]
      refine take_lastI (i := 7) (v := ?_) (p := [8, 9, 19]) rfl (by kernel_rfl) (by kernel_rfl) (by kernel_rfl) (by kernel_rfl) (by kernel_rfl) (fun _ _ _ h => h) (Or.inl ⟨by rfl, ?_⟩) hS ?_
      rotate_left
      · (rintro w ⟨s1, s2, s3, s4⟩; go_simp; try with_reducible rfl)
      simp only [Act.put, List.setIfInBounds_toArray, List.set_cons_zero, List.set_cons_succ]
      refine take_lastI (i := 8) (v := ?_) (p := [9, 19]) rfl (by kernel_rfl) (by kernel_rfl) (by kernel_rfl) (by kernel_rfl) (by kernel_rfl) (fun _ _ _ h => h) (Or.inl ⟨by rfl, ?_⟩) hS ?_
      rotate_left
      · (rintro w ⟨s1, s2, s3, s4⟩; go_simp; try with_reducible rfl)
      simp only [Act.put, List.setIfInBounds_toArray, List.set_cons_zero, List.set_cons_succ]
      refine take_lastI (i := 9) (v := ?_) (p := [19]) rfl (by kernel_rfl) (by kernel_rfl) (by kernel_rfl) (by kernel_rfl) (by kernel_rfl) (fun _ _ _ h => h) (Or.inl ⟨by rfl, ?_⟩) hS ?_
      rotate_left
      · (rintro w ⟨s1, s2, s3, s4⟩; go_simp; try with_reducible rfl)
      simp only [Act.put, List.setIfInBounds_toArray, List.set_cons_zero, List.set_cons_succ]
      refine take_lastI (i := 10) (v := ?_) (p := [11, 12, 13, 15, 16, 17, 18]) rfl (by kernel_rfl) (by kernel_rfl) (by kernel_rfl) (by kernel_rfl) (by kernel_rfl) (fun _ _ _ h => h) (Or.inl ⟨by rfl, ?_⟩) hS ?_
      rotate_left
      · (rintro w ⟨s1, s2, s3, s4⟩; go_simp; try with_reducible rfl)
      simp only [Act.put, List.setIfInBounds_toArray, List.set_cons_zero, List.set_cons_succ]
      refine take_lastI (i := 11) (v := ?_) (p := [12, 13, 15, 16, 17, 18]) rfl (by kernel_rfl) (by kernel_rfl) (by kernel_rfl) (by kernel_rfl) (by kernel_rfl) (fun _ _ _ h => h) (Or.inl ⟨by rfl, ?_⟩) hS ?_
      rotate_left
      · (rintro w ⟨s1, s2, s3, s4⟩; go_simp; try with_reducible rfl)
      simp only [Act.put, List.setIfInBounds_toArray, List.set_cons_zero, List.set_cons_succ]
      refine take_lastI (i := 12) (v := ?_) (p := [13, 15, 16, 17, 18]) rfl (by kernel_rfl) (by kernel_rfl) (by kernel_rfl) (by kernel_rfl) (by kernel_rfl) (fun _ _ _ h => h) (Or.inl ⟨by rfl, ?_⟩) hS ?_
      rotate_left
      · (rintro w ⟨s1, s2, s3, s4⟩; go_simp; try with_reducible rfl)
      simp only [Act.put, List.setIfInBounds_toArray, List.set_cons_zero, List.set_cons_succ]
      refine take_lastI (i := 13) (v := ?_) (p := [15, 16, 17, 18]) rfl (by kernel_rfl) (by kernel_rfl) (by kernel_rfl) (by kernel_rfl) (by kernel_rfl) (fun _ _ _ h => h) (Or.inl ⟨by rfl, ?_⟩) hS ?_
      rotate_left
      · (rintro w ⟨s1, s2, s3, s4⟩; go_simp; try with_reducible rfl)
      simp only [Act.put, List.setIfInBounds_toArray, List.set_cons_zero, List.set_cons_succ]
      refine take_lastI (i := 14) (v := ?_) (p := [15, 16, 17, 18]) rfl (by kernel_rfl) (by kernel_rfl) (by kernel_rfl) (by kernel_rfl) (by kernel_rfl) (fun _ _ _ h => h) (Or.inl ⟨by rfl, ?_⟩) hS ?_
      rotate_left
      · (rintro w ⟨s1, s2, s3, s4⟩; go_simp; try with_reducible rfl)
      simp only [Act.put, List.setIfInBounds_toArray, List.set_cons_zero, List.set_cons_succ]
      refine take_lastI (i := 15) (v := ?_) (p := [16, 17, 18]) rfl (by kernel_rfl) (by kernel_rfl) (by kernel_rfl) (by kernel_rfl) (by kernel_rfl) (fun _ _ _ h => h) (Or.inl ⟨by rfl, ?_⟩) hS ?_
      rotate_left
      · (rintro w ⟨s1, s2, s3, s4⟩; go_simp; try with_reducible rfl)
      simp only [Act.put, List.setIfInBounds_toArray, List.set_cons_zero, List.set_cons_succ]
      refine take_lastI (i := 16) (v := ?_) (p := [17, 18]) rfl (by kernel_rfl) (by kernel_rfl) (by kernel_rfl) (by kernel_rfl) (by kernel_rfl) (fun _ _ _ h => h) (Or.inl ⟨by rfl, ?_⟩) hS ?_
      rotate_left
      · (rintro w ⟨s1, s2, s3, s4⟩; go_simp; try with_reducible rfl)
      simp only [Act.put, List.setIfInBounds_toArray, List.set_cons_zero, List.set_cons_succ]
      refine take_lastI (i := 17) (v := ?_) (p := [18]) rfl (by kernel_rfl) (by kernel_rfl) (by kernel_rfl) (by kernel_rfl) (by kernel_rfl) (fun _ _ _ h => h) (Or.inl ⟨by rfl, ?_⟩) hS ?_
      rotate_left
      · (rintro w ⟨s1, s2, s3, s4⟩; go_simp; try with_reducible rfl)
      simp only [Act.put, List.setIfInBounds_toArray, List.set_cons_zero, List.set_cons_succ]
      refine one_lastI (i := 18) (by kernel_rfl) ?_
      refine wpOpIn_step rfl (fun K hK => ?_)
      have HK := hid hK
      clear hK
      go_simp
      refine ⟨trivial, fun _ => by omega, ?_⟩
      refine (callsIn_wide.2 (clone_any Bx kx x.2 wr.drew (HBO.out.1.calm (Calm.refl wr).drew) HBO.out.2.1.1 hxl)).mono ?_
      rintro e w2 ⟨B2, k2, rfl, hr2, hz2, hf2, b2⟩
      have S2 := hid (show w2.cell? ⟨Bp, 0, none⟩ = some (.pointer (some ⟨T, 0, none⟩)) ∧ w2.cell? ⟨T, 1, none⟩ = some (.slice (some ad) xs.length c) ∧ w2.cell? (ad.add (k * 2)) = some (.bool x.1) ∧ w2.cell? ⟨(ad.add (k * 2)).block, (ad.add (k * 2)).off + 1, none⟩ = some (.slice Bx x.2.length kx) from ⟨cell_below b2 hS.1, cell_below b2 hS.2.1, cell_below b2 hS.2.2.1, cell_below b2 hS.2.2.2⟩)
      have hJ2 := hid (HJb.out _ _ _ HJ.out (below_trans ((Calm.refl wr).drew.below _) b2))
      have hok := hid (show GotOk xs base pre w2 ⟨k, x, B2, k2⟩ from ⟨hkk.symm, by rw [hkk]; exact HX.out, hr2, hz2, fun bd e => ⟨Nat.le_trans HBASE.out (hf2 bd e).1, (hf2 bd e).2⟩⟩)
      refine HK.out _ _ ⟨fun _ => S2.out, ?_⟩
      clear HK K hr2 hz2 hf2 b2 i0 i1' c1 hcp
      try simp only [Act.put, List.setIfInBounds_toArray, List.set_cons_zero, List.set_cons_succ]
      refine one_lastI (i := 19) (by kernel_rfl) ?_
      refine wpOpIn_step rfl (fun K hK => ?_)
      have HK := hid hK
      clear hK
      go_simp
      refine HK.out _ _ ⟨fun _ => S2.out, ?_⟩
      clear HK K
      try simp only [Act.put, List.setIfInBounds_toArray, List.set_cons_zero, List.set_cons_succ]
      refine one_lastI (i := 20) (by kernel_rfl) ?_
      refine wpOpIn_step rfl (fun K hK => ?_)
      have HK := hid hK
      clear hK
      obtain ⟨fn, tmps, assign, body, hy, hR⟩ := HY.out pre ⟨k, x, B2, k2⟩ w2 hJ2.out hok.out
      unfold Got.enc at hy
      simp only at hy
      go_simp
      refine ⟨fun _ => by omega, hR.mono ?_⟩
      rintro e W3 (⟨rfl, hJ3⟩ | ⟨rfl, hJx3⟩)
      · have HJ3 := hid hJ3
        refine HK.out _ _ ⟨fun h => absurd h (by decide), ?_⟩
        clear HK K hJ3 hy hR
        try simp only [Act.put, List.setIfInBounds_toArray, List.set_cons_zero, List.set_cons_succ]
        refine one_lastI (i := 21) (by kernel_rfl) ?_
        refine wpOpIn_step rfl (fun K hK => ?_)
        have HK := hid hK
        clear hK
        go_simp
        refine HK.out _ _ ⟨fun h => absurd h (by decide), ?_⟩
        clear HK K
        try simp only [Act.put, List.setIfInBounds_toArray, List.set_cons_zero, List.set_cons_succ]
        refine done_lastI (by kernel_rfl) ?_ _
        gi_wp2
        go_roundw
        case rel => exact ⟨pre ++ [⟨k, x, B2, k2⟩], by rw [List.length_append, HKK.out]; exact hlt, by rw [List.length_append, HKK.out]; go_num, HJ3⟩
        case measure => simp [intOf]; omega
      · have HJx3 := hid hJx3
        refine HK.out _ _ ⟨fun h => absurd h (by decide), ?_⟩
        clear HK K hJx3 hy hR
        try simp only [Act.put, List.setIfInBounds_toArray, List.set_cons_zero, List.set_cons_succ]
        refine one_lastI (i := 21) (by kernel_rfl) ?_
        refine wpOpIn_step rfl (fun K hK => ?_)
        have HK := hid hK
        clear hK
        go_simp
        refine HK.out _ _ ⟨fun h => absurd h (by decide), ?_⟩
        clear HK K
        try simp only [Act.put, List.setIfInBounds_toArray, List.set_cons_zero, List.set_cons_succ]
        refine done_lastI (by kernel_rfl) ?_ _
        gi_wp2
        refine bodyPost_ret (results_none rfl _ _ _) rfl ?_
        exact ⟨⟨_, rfl⟩, .inr ⟨_, trivial, HJx3.out⟩⟩
    · have hke : k = xs.length := by omega
      have dl : decide (k < xs.length) = false := by simpa using hlt
      gi_wp2
      go_end0
      exact ⟨⟨_, rfl⟩, .inl ⟨pre, by rw [HKK.out, hke], HJ.out⟩⟩
end Go.Proofs.Ythieemfcmehdiaa
