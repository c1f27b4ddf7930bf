/- The finder's put. -/
import Derived.Deep.RegionHeld
import Derived.Laws.Cover3
import Derived.Test.YtaoodggdopdkeaaFind
namespace Go.Proofs.Ytaoodggdopdkeaa
open Go.RowKit

structure Finder (w : World) (F M K : Nat) (A : Option Addr) (c : Nat) (b : List UInt8) (m : Nat) : Prop where
  blk : w.heap[F]? = some (.cells #[.slice A b.length c, .map (some M), .slice (some ⟨K, 0, none⟩) b.length b.length] 50 (0, 0))
  bytes : Reads w A (bytesV b)
  map : ∃ D : DataW Unit, w.ownsMap Try.prog 36 (plainElem Try.prog 3) M m D ∧ MapIs D b m
  back : ∃ cs, w.heap[K]? = some (.cells cs 3 (0, 0)) ∧ cs.size = b.length ∧ ∀ i, i < m → cs[i]? = some (.int .i64 (Plain.prevI b i))
  fm : F ≠ M
  fk : F ≠ K
  mq : M ≠ K
  out : ∀ ad, A = some ad → 0 < b.length → ad.block ≠ F ∧ ad.block ≠ M ∧ ad.block ≠ K
  cap : b.length ≤ c
  small : b.length ≤ 1000000
section
variable {w : World} {F M K c m : Nat} {b : List UInt8} {A : Option Addr}
theorem Finder.c0 (h : Finder w F M K A c b m) : w.cell? ⟨F, 0, none⟩ = some (.slice A b.length c) := by rw [cell_of_row w F 0 _ _ _ h.blk]; rfl
theorem Finder.c1 (h : Finder w F M K A c b m) : w.cell? ⟨F, 1, none⟩ = some (.map (some M)) := by rw [cell_of_row w F 1 _ _ _ h.blk]; rfl
theorem Finder.c2 (h : Finder w F M K A c b m) : w.cell? ⟨F, 2, none⟩ = some (.slice (some ⟨K, 0, none⟩) b.length b.length) := by rw [cell_of_row w F 2 _ _ _ h.blk]; rfl
theorem Finder.lt (h : Finder w F M K A c b m) : F < w.heap.size := (Array.getElem?_eq_some_iff.1 h.blk).1
theorem Finder.byte (h : Finder w F M K A c b m) {i : Nat} (hi : i < b.length) : ∃ ad, A = some ad ∧ ad.block ≠ F ∧ ad.block ≠ M ∧ ad.block ≠ K ∧ w.cell? (ad.add i) = some (.int .u8 (b[i]).toNat) := by
  obtain ⟨ad, e, hc⟩ := h.bytes.2 i (by simpa [bytesV] using hi)
  obtain ⟨h1, h2, h3⟩ := h.out ad e (by omega)
  exact ⟨ad, e, h1, h2, h3, by simpa [bytesV] using hc⟩
end
theorem add_block (ad : Addr) (i : Nat) : (ad.add i).block = ad.block := by unfold Addr.add; split <;> rfl
theorem add_off (ad : Addr) (i : Nat) : (ad.add i).off = ad.off + i := by unfold Addr.add; split <;> simp_all
theorem add_one' (ad : Addr) (i : Nat) : ad.add (i + 1) = ⟨(ad.add i).block, (ad.add i).off + 1, none⟩ := by rw [add_block, add_off]; simp [Addr.add]; omega
theorem add_two' (ad : Addr) (i : Nat) : ad.add (i + 2) = ⟨(ad.add i).block, (ad.add i).off + 2, none⟩ := by rw [add_block, add_off]; simp [Addr.add]; omega
theorem info3 : (Try.prog.info? 3).map (fun i => (i.zero, i.size, i.bytes)) = some (some (.int .i64 0), 1, 8) := by kernel_rfl
set_option maxHeartbeats 1000000 in
set_option maxRecDepth 100000 in
theorem put_over {w : World} {F M K c m : Nat} {b : List UInt8} {A : Option Addr} (h : Finder w F M K A c b m) (hm : m < b.length) (h3 : b.length < m + 3) :
    Calls Try.prog 18 #[.pointer (some ⟨F, 0, none⟩), .int .i64 m] w fun e w' => (∃ v, e = .returned v) ∧ w' = w.setCell ⟨K, m, none⟩ (.int .i64 (-1)) := by
  obtain ⟨cs, hK, hcs, hback⟩ := h.back
  have k0 := h.c0
  have k2 := h.c2
  have hsm := h.small
  obtain ⟨x, kc⟩ : ∃ x, w.cell? ⟨K, m, none⟩ = some x := ⟨cs[m]'(by omega), by rw [cell_of_row w K m _ _ _ hK]; simp⟩
  have kf := frozen_of_row w K m _ _ hK
  obtain ⟨w1, hw1⟩ : ∃ w1, w.setCell ⟨K, m, none⟩ (.int .i64 (-1)) = w1 := ⟨_, rfl⟩
  have j0 : w1.cell? ⟨F, 0, none⟩ = some (.slice A b.length c) := by rw [← hw1]; exact (World.cell?_setCell_far _ _ _ _ (by show K ≠ F; exact h.fk.symm)).trans k0
  rw [hw1]
  have hlt : decide ((b.length : Int) < (m : Int) + 3) = true := by simp; omega
  clear h hK hcs hback
  go_enter Try.func18, Try.ntmps18
  go_wp2
  exact bodyPost_ret (results_none rfl _ _ _) rfl ⟨⟨_, rfl⟩, rfl⟩

theorem wf_small {m : Nat} (h : m ≤ 1000000) : (Lit.int .i64 (m : Int)).wf = true := by simp [Lit.wf, IntKind.min, IntKind.max, IntKind.signed, IntKind.bits]; omega
theorem zero3 (w : World) : (zeroValue 3).run Try.prog w = .ok (.int .i64 0) w := by kernel_rfl
theorem key_cons {b : List UInt8} {m : Nat} (h : m + 3 ≤ b.length) : Plain.key b m = [b[m], b[m + 1], b[m + 2]] := by
  unfold Plain.key
  rw [List.drop_eq_getElem_cons (by omega), List.drop_eq_getElem_cons (by omega), List.drop_eq_getElem_cons (by omega)]
  rfl
theorem Finder.next {w w9 : World} {F M K c m : Nat} {b : List UInt8} {A : Option Addr} (h : Finder w F M K A c b m) (hm : m < b.length) (t : Touch [M, K] w w9) (cs : Array Value) (hK : w.heap[K]? = some (.cells cs 3 (0, 0)))
    (hK9 : w9.heap[K]? = some (.cells (cs.setIfInBounds m (.int .i64 (Plain.prevI b m))) 3 (0, 0))) (D : DataW Unit) (ho : w9.ownsMap Try.prog 36 (plainElem Try.prog 3) M (m + 1) D) (hD : MapIs D b (m + 1)) : Finder w9 F M K A c b (m + 1) := by
  obtain ⟨cs', hK', hcs, hb⟩ := h.back
  rw [hK] at hK'
  cases hK'
  refine ⟨(t.block F h.lt (by simp [h.fm, h.fk])).trans h.blk, ⟨h.bytes.1, fun i hi => ?_⟩, ⟨D, ho, hD⟩, ⟨_, hK9, by simp [hcs], fun i hi => ?_⟩, h.fm, h.fk, h.mq, h.out, h.cap, h.small⟩
  · obtain ⟨ad, e, hc⟩ := h.bytes.2 i hi
    obtain ⟨_, o2, o3⟩ := h.out ad e (by omega)
    exact ⟨ad, e, (World.cell?_of_block (w := w) (t.block _ (World.block_lt_of_cell? w _ hc) (by rw [add_block]; simp [o2, o3]))).trans hc⟩
  · by_cases e : i = m
    · subst e; rw [Array.getElem?_setIfInBounds_self_of_lt (by omega)]
    · rw [Array.getElem?_setIfInBounds_ne (by omega)]; exact hb i (by omega)
def foundW (W : World) (K m : Nat) : Option Nat → World
  | none => W
  | some p => W.setCell ⟨K, m, none⟩ (.int .i64 (p : Int))
/-- the world behind put: the stores, told by what was found -/
theorem put_done {w w1 W2 W3 w9 : World} {F M K c m : Nat} {b : List UInt8} {A : Option Addr} (h : Finder w F M K A c b m) (h3 : m + 3 ≤ b.length) (hw1 : w.setCell ⟨K, m, none⟩ (.int .i64 (-1)) = w1) (b2 : Below w1.heap.size w1 W2)
    (nq : Nat) (q : Option Nat) (hq : Plain.lastOf b (Plain.key b m) m = q) (D : DataW Unit) (hD : MapIs D b m)
    (hW3 : W3 = foundW (W2.drewN nq) K m q)
    (hg : (W3.drew).grownBy w9 (some M)) (ho : w9.ownsMap Try.prog 36 (plainElem Try.prog 3) M (m + 1) (D.put (keyLit (Plain.key b m)) (.lit (.int .i64 m)))) :
    Finder w9 F M K A c b (m + 1) ∧ Touch [M, K] w w9 := by
  obtain ⟨cs, hK, hcs, hb⟩ := h.back
  have hKl : K < w.heap.size := (Array.getElem?_eq_some_iff.1 hK).1
  have k1 := heap_setCell_same w K m _ 3 (.int .i64 (-1)) hK
  rw [hw1] at k1
  have z1 : w1.heap.size = w.heap.size := by rw [← hw1]; simp
  have k2 : (W2.drewN nq).heap[K]? = some (.cells (cs.setIfInBounds m (.int .i64 (-1))) 3 (0, 0)) := (b2.block K (by omega)).trans k1
  have z2 : W2.heap.size = (W2.drewN nq).heap.size := rfl
  have t1 : Touch [K] w w1 := by rw [← hw1]; exact Touch.setCell w ⟨K, m, none⟩ _
  have t2 : Touch [K] w (W2.drewN nq) := (t1.trans (Touch.of_below b2 [K]) (by simp)).calm (Calm.of_drewN W2 nq)
  have hv : W3.heap[K]? = some (.cells (cs.setIfInBounds m (.int .i64 (Plain.prevI b m))) 3 (0, 0)) ∧ Touch [K] w W3 := by
    unfold Plain.prevI
    rw [if_pos h3, hq]
    cases q with
    | none => subst hW3; exact ⟨k2, t2⟩
    | some p =>
      subst hW3
      refine ⟨?_, t2.trans (Touch.setCell _ _ _) (by simp)⟩
      have := heap_setCell_same _ K m _ 3 (.int .i64 (p : Int)) k2
      refine this.trans ?_
      simp
  obtain ⟨k3, t3⟩ := hv
  have k9 : w9.heap[K]? = _ := (hg.block K (by show K < W3.heap.size; exact (Array.getElem?_eq_some_iff.1 k3).1) (by intro e; exact h.mq (Option.some.inj e).symm)).trans k3
  have t9 : Touch [M, K] w w9 := (t3.drew.mono (S' := [M, K]) (by simp)).trans (Touch.grown hg) (by simp)
  exact ⟨h.next (by omega) t9 cs hK k9 _ ho (hD.put h3), t9⟩
set_option maxHeartbeats 2000000 in
set_option maxRecDepth 100000 in
theorem put_in {w : World} {F M K c m : Nat} {b : List UInt8} {A : Option Addr} (h : Finder w F M K A c b m) (h3 : m + 3 ≤ b.length) :
    Calls Try.prog 18 #[.pointer (some ⟨F, 0, none⟩), .int .i64 m] w fun e w' => (∃ v, e = .returned v) ∧ Finder w' F M K A c b (m + 1) ∧ Touch [M, K] w w' := by
  obtain ⟨cs, hK, hcs, hback⟩ := h.back
  have k0 := h.c0
  have k1 := h.c1
  have k2 := h.c2
  have hsm := h.small
  have hcap := h.cap
  have hFK := h.fk
  obtain ⟨ad, rfl, o1, o2, o3, b0⟩ := h.byte (i := m) (by omega)
  obtain ⟨_, e1, _, _, _, b1⟩ := h.byte (i := m + 1) (by omega)
  cases e1
  obtain ⟨_, e1, _, _, _, b2⟩ := h.byte (i := m + 2) (by omega)
  cases e1
  obtain ⟨y0, hy0⟩ : ∃ y, b[m] = y := ⟨_, rfl⟩
  obtain ⟨y1, hy1⟩ : ∃ y, b[m + 1] = y := ⟨_, rfl⟩
  obtain ⟨y2, hy2⟩ : ∃ y, b[m + 2] = y := ⟨_, rfl⟩
  have hkc := key_cons h3
  rw [hy0, hy1, hy2] at hkc
  rw [hy0] at b0
  rw [hy1] at b1
  rw [hy2] at b2
  obtain ⟨x, kc⟩ : ∃ x, w.cell? ⟨K, m, none⟩ = some x := ⟨cs[m]'(by omega), by rw [cell_of_row w K m _ _ _ hK]; simp⟩
  have kf := frozen_of_row w K m _ _ hK
  obtain ⟨w1, hw1⟩ : ∃ w1, w.setCell ⟨K, m, none⟩ (.int .i64 (-1)) = w1 := ⟨_, rfl⟩
  have far : ∀ {p : Addr} {v : Value}, p.block ≠ K → w.cell? p = some v → w1.cell? p = some v := fun hp hc => by rw [← hw1]; exact (World.cell?_setCell_far _ _ _ _ (fun e => hp e.symm)).trans hc
  have j0 := far (p := ⟨F, 0, none⟩) hFK k0
  have j1 := far (p := ⟨F, 1, none⟩) hFK k1
  have j2 := far (p := ⟨F, 2, none⟩) hFK k2
  have a0 := far (p := ad.add m) (by rw [add_block]; exact o3) b0
  have a1 : w1.cell? ⟨(ad.add m).block, (ad.add m).off + 1, none⟩ = some (.int .u8 y1.toNat) := far (by show (ad.add m).block ≠ K; rw [add_block]; exact o3) (by rw [← add_one']; exact b1)
  have a2 : w1.cell? ⟨(ad.add m).block, (ad.add m).off + 2, none⟩ = some (.int .u8 y2.toNat) := far (by show (ad.add m).block ≠ K; rw [add_block]; exact o3) (by rw [← add_two']; exact b2)
  have hlt : decide ((b.length : Int) < (m : Int) + 3) = false := by simp; omega
  have hat : ∀ w, (Instr.arrayAt 36 (.slice (some (ad.add m)) (b.length - m) (c - m))).run Try.prog w = .ok (.pointer (some (ad.add m))) w := fun w => run_arrayAt w 36 _ 3 _ _ _ Try.underlying36 (by omega)
  have HH := hid h
  have HW1 := hid hw1
  have HKC := hid hkc
  clear h hK hback far hkc hy0 hy1 hy2
  go_enter Try.func18, Try.ntmps18
  go_wp2
  obtain ⟨G, hG⟩ : ∃ G, w1.heap.size = G := ⟨_, rfl⟩
  obtain ⟨W2, hW2⟩ : ∃ W2, w1.alloc (.cells #[.int .u8 y0.toNat, .int .u8 y1.toNat, .int .u8 y2.toNat] 36) = W2 := ⟨_, rfl⟩
  have bb : Below w1.heap.size w1 W2 := by rw [← hW2]; exact below_new _ _
  have n0 : W2.cell? ⟨G, 0, none⟩ = some (.int .u8 y0.toNat) := by rw [← hW2, ← hG, cell_new]; rfl
  have n1 : W2.cell? ⟨G, 1, none⟩ = some (.int .u8 y1.toNat) := by rw [← hW2, ← hG, cell_new]; rfl
  have n2 : W2.cell? ⟨G, 2, none⟩ = some (.int .u8 y2.toNat) := by rw [← hW2, ← hG, cell_new]; rfl
  have i1 := cell_below bb j1
  have i2 := cell_below bb j2
  have kc1 : w1.cell? ⟨K, m, none⟩ = some (.int .i64 (-1)) := by rw [← hw1]; exact World.cell?_setCell_same' w ⟨K, m, none⟩ _ (by rw [kc]; rfl)
  have kf1 : w1.frozen? ⟨K, m, none⟩ = false := by rw [← hw1, World.frozen?_setCell]; exact kf
  have kc2 := cell_below bb kc1
  have kf2 := (bb.frozen (p := ⟨K, m, none⟩) (World.block_lt_of_cell? w1 _ kc1)).trans kf1
  have B2 := hid bb
  have HG := hid hG
  rw [hW2, hG]
  clear hW2 hG bb j0 j1 j2 a0 a1 a2 k0 k1 k2 b0 b1 b2 hat hlt hw1 kc kf kc1 kf1
  obtain ⟨D, hown, hD⟩ := HH.out.map
  have hgk : (Plain.key b m).length = 3 := by rw [HKC.out]; rfl
  obtain ⟨ha, hhas⟩ := hD.2 (Plain.key b m) hgk
  have hown2 : ∀ n, (W2.drewN n).ownsMap Try.prog 36 (plainElem Try.prog 3) M m D := fun n => by
    obtain ⟨es, clock, hb, r⟩ := hown
    refine ⟨es, clock, ?_, r⟩
    show W2.heap[M]? = _
    have hMl : M < w.heap.size := (Array.getElem?_eq_some_iff.1 hb).1
    rw [B2.out.block M (by rw [← HW1.out]; simp; exact hMl), ← HW1.out, Below.heap_setCell _ _ _ _ HH.out.mq]
    exact hb
  have hkey : keyOf Try.prog 36 (.agg #[.int .u8 y0.toNat, .int .u8 y1.toNat, .int .u8 y2.toNat]) = some (keyLit (Plain.key b m)) := by rw [HKC.out]; exact key_three _ _ _
  have hl : ∃ p : Int, (∀ n, (Instr.lookup 35 (.map (some M)) (.agg #[.int .u8 y0.toNat, .int .u8 y1.toNat, .int .u8 y2.toNat]) true).run Try.prog (W2.drewN n) = .ok (.tuple #[.int .i64 p, .bool (Plain.lastOf b (Plain.key b m) m).isSome]) (W2.drewN n)) ∧ p = (((Plain.lastOf b (Plain.key b m) m).getD 0 : Nat) : Int) := by
    refine ⟨_, fun n => ?_, rfl⟩
    obtain ⟨v, ps, hrun, hv⟩ := (hown2 n).look_ok law36 Try.underlying35 (zero3 _) (plainElem_int Try.underlying3 (by decide)) hkey
    rw [ha] at hv
    obtain ⟨c, rfl, hc, _⟩ := plainElem_int_inv Try.underlying3 hv
    simp only [Prod.mk.injEq, DataW.lit.injEq, Lit.int.injEq, true_and] at hc
    rw [hhas] at hrun
    rw [hrun, hc.1]
  obtain ⟨p, hl, hp⟩ := hl
  have HD := hid hD
  have HO := hid hown2
  have HP := hid hp
  have HKEY := hid hkey
  clear hD hown2 hown hhas ha hp hkey hgk
  cases hlo : Plain.lastOf b (Plain.key b m) m with
  | none =>
    rw [hlo] at hl
    simp only [Option.isSome_none] at hl
    have HLO := hid hlo
    clear hlo
    go_quiet (fail)
    go_wp2
    obtain ⟨w9, hup, ho9, hg9⟩ := (HO.out (nq + 1)).update law36 Try.underlying35 (by unfold maxLen; omega) HKEY.out (plainElem_int (P := Try.prog) Try.underlying3 (a := (m : Int)) (wf_small (by omega)))
    have HO9 := hid ho9
    have HG9 := hid hg9
    clear ho9 hg9
    go_region
    all_goals
      refine bodyPost_end (results_none rfl _ _ _) rfl ⟨⟨_, rfl⟩, ?_⟩
      exact put_done HH.out h3 HW1.out B2.out nq none HLO.out D HD.out rfl HG9.out HO9.out
  | some q =>
    rw [hlo] at hl
    simp only [Option.isSome_some] at hl
    have HLO := hid hlo
    clear hlo
    go_quiet (fail)
    go_wp2
    obtain ⟨W3, hW3⟩ : ∃ W3, (W2.drewN nq).setCell ⟨K, m, none⟩ (.int .i64 p) = W3 := ⟨_, rfl⟩
    have far : ∀ {x : Addr} {v : Value}, x.block ≠ K → W2.cell? x = some v → W3.cell? x = some v := fun hp hc => by rw [← hW3]; exact (World.cell?_setCell_far _ _ _ _ (fun e => hp e.symm)).trans hc
    have hGK : G ≠ K := by
      have := (Array.getElem?_eq_some_iff.1 HH.out.back.choose_spec.1).1
      have z : w1.heap.size = w.heap.size := by rw [← HW1.out]; simp
      rw [← HG.out]; omega
    have m0 := far (x := ⟨G, 0, none⟩) hGK n0
    have m1 := far (x := ⟨G, 1, none⟩) hGK n1
    have m2 := far (x := ⟨G, 2, none⟩) hGK n2
    have l1 := far (x := ⟨F, 1, none⟩) hFK i1
    have hown3 : W3.drew.ownsMap Try.prog 36 (plainElem Try.prog 3) M m D := by rw [← hW3]; exact ((HO.out nq).setCell (a := ⟨K, m, none⟩) HH.out.mq _).drew
    have HW3 := hid hW3
    rw [hW3]
    obtain ⟨w9, hup, ho9, hg9⟩ := hown3.update law36 Try.underlying35 (by unfold maxLen; omega) HKEY.out (plainElem_int (P := Try.prog) Try.underlying3 (a := (m : Int)) (wf_small (by omega)))
    have HO9 := hid ho9
    have HG9 := hid hg9
    clear ho9 hg9 far hW3 hown3 n0 n1 n2 i1 i2
    go_region
    all_goals
      refine bodyPost_end (results_none rfl _ _ _) rfl ⟨⟨_, rfl⟩, ?_⟩
      exact put_done HH.out h3 HW1.out B2.out nq (some q) HLO.out D HD.out (by rw [← HW3.out, HP.out, HLO.out]; rfl) HG9.out HO9.out
theorem put_any {w : World} {F M K c m : Nat} {b : List UInt8} {A : Option Addr} (h : Finder w F M K A c b m) (hm : m < b.length) :
    Calls Try.prog 18 #[.pointer (some ⟨F, 0, none⟩), .int .i64 m] w fun e w' => (∃ v, e = .returned v) ∧ Finder w' F M K A c b (m + 1) ∧ Touch [M, K] w w' := by
  by_cases h3 : m + 3 ≤ b.length
  · exact put_in h h3
  · refine (put_over h hm (by omega)).mono ?_
    rintro e w' ⟨he, rfl⟩
    obtain ⟨cs, hK, _⟩ := h.back
    obtain ⟨D, ho, hD⟩ := h.map
    have t := (Touch.setCell w ⟨K, m, none⟩ (.int .i64 (-1))).mono (S' := [M, K]) (by simp)
    refine ⟨he, h.next hm t cs hK ?_ D ((ho.setCell (a := ⟨K, m, none⟩) h.mq _).mono (Nat.le_succ m)) (hD.over (by omega)), t⟩
    rw [heap_setCell_same w K m _ 3 _ hK]
    unfold Plain.prevI
    rw [if_neg h3]
end Go.Proofs.Ytaoodggdopdkeaa
