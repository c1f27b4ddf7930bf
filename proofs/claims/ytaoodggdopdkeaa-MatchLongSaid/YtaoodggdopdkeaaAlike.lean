/- The finder's alike. -/
import Derived.Test.YtaoodggdopdkeaaFindPut
namespace Go.Proofs.Ytaoodggdopdkeaa
open Go.RowKit

theorem alikeGo_yes {b : List UInt8} {p q k : Nat} (h1 : k < 258) (h2 : q + k < b.length) (h3 : b[p + k]? = b[q + k]?) : Plain.alikeGo b p q (258 - k) k = Plain.alikeGo b p q (258 - (k + 1)) (k + 1) := by
  rw [show 258 - k = 258 - (k + 1) + 1 by omega]
  show (if _ then _ else _) = _
  rw [if_pos ⟨h2, h3⟩]
theorem alikeGo_no {b : List UInt8} {p q k : Nat} (h : k < 258 → q + k < b.length → ¬ b[p + k]? = b[q + k]?) : Plain.alikeGo b p q (258 - k) k = k := by
  by_cases h1 : k < 258
  · rw [show 258 - k = 258 - (k + 1) + 1 by omega]
    show (if _ then _ else _) = _
    rw [if_neg (fun hc => h h1 hc.1 hc.2)]
  · rw [show 258 - k = 0 by omega]
    rfl
theorem toNat_ne {x y : UInt8} (h : x ≠ y) : ((x.toNat : Int) == (y.toNat : Int)) = false := by
  have : x.toNat ≠ y.toNat := fun e => h (UInt8.toNat_inj.1 e)
  simp; omega
set_option maxHeartbeats 2000000 in
set_option maxRecDepth 100000 in
theorem alike_any {w : World} {F M K c m : Nat} {b : List UInt8} {A : Option Addr} (h : Finder w F M K A c b m) (p q : Nat) (hpq : p < q) (hq : q < b.length) :
    Calls Try.prog 21 #[.pointer (some ⟨F, 0, none⟩), .int .i64 p, .int .i64 q] w fun e w' => e = .returned (.int .i64 (Plain.alike b p q)) ∧ ∃ n, w' = w.drewN n := by
  have hsm := h.small
  have k0 := h.c0
  obtain ⟨ad, rfl, _⟩ := h.byte (i := 0) (by omega)
  have HB : Hid (∀ i (hi : i < b.length), w.cell? (ad.add i) = some (.int .u8 (b[i]).toNat)) := hid fun i hi => by
    obtain ⟨_, e, _, _, _, hc⟩ := h.byte hi
    cases e
    exact hc
  obtain ⟨r, hr⟩ : ∃ r, Plain.alike b p q = r := ⟨_, rfl⟩
  have HR := hid hr
  rw [hr]
  clear h hr
  go_enter Try.func21, Try.ntmps21
  go_wp2
  go_loopw [7] (fun i wr => ∃ k : Nat, k ≤ 258 ∧ q + k ≤ b.length ∧ i = .int .i64 k ∧ Hid (Plain.alikeGo b p q (258 - k) k = r) ∧ ∃ n, wr = w.drewN n) (fun i _ => 258 - (intOf i).toNat)
  case atStart => exact ⟨0, by omega, by omega, rfl, HR, 0, rfl⟩
  case round =>
    obtain ⟨k, hk1, hk2, rfl, HG, n0, rfl⟩ := hrel
    go_wp2
    by_cases c1 : k < 258
    · have d1 : decide ((k : Int) < 258) = true := by simp; omega
      by_cases c2 : q + k < b.length
      · have b1 := HB.out (p + k) (by omega)
        have b2 := HB.out (q + k) c2
        have e1 : b[p + k]? = some b[p + k] := List.getElem?_eq_getElem (by omega)
        have e2 : b[q + k]? = some b[q + k] := List.getElem?_eq_getElem c2
        by_cases c3 : b[p + k] = b[q + k]
        · have HN := hid ((alikeGo_yes c1 c2 (by rw [e1, e2, c3])).symm.trans HG.out)
          rw [c3] at b1
          obtain ⟨x, hx⟩ : ∃ x : Int, ((b[q + k]).toNat : Int) = x := ⟨_, rfl⟩
          rw [hx] at b1 b2
          have d2 : decide ((q : Int) + (k : Int) < (b.length : Int)) = true := by simp; omega
          have s1 : IntKind.i64.wrap ((q : Int) + (k : Int)) = (q : Int) + (k : Int) := IntWalk.i64_in _ (by omega)
          have s2 : IntKind.i64.wrap ((p : Int) + (k : Int)) = (p : Int) + (k : Int) := IntWalk.i64_in _ (by omega)
          have s3 : 0 ≤ (q : Int) + (k : Int) := by omega
          have s4 : 0 ≤ (p : Int) + (k : Int) := by omega
          have s5 : ((q : Int) + (k : Int)).toNat = q + k := by omega
          have s6 : ((p : Int) + (k : Int)).toNat = p + k := by omega
          have s7 : (p : Int) + (k : Int) < (b.length : Int) := by omega
          have s8 : (q : Int) + (k : Int) < (b.length : Int) := by omega
          have C1 := hid c1
          have C2 := hid c2
          clear hx e1 e2 c3 c1 c2
          go_quiet (fail)
          clear s1 s2 s3 s4 s5 s6 s7 s8
          go_wp2
          go_roundw
          case rel => exact ⟨k + 1, by have := C1.out; omega, by have := C2.out; omega, by go_num, HN, _, rfl⟩
          case measure => have := C1.out; simp [intOf]; omega
        · have hrk := HG.out
          rw [alikeGo_no (fun _ _ hc => c3 (by rw [e1, e2] at hc; exact Option.some.inj hc))] at hrk
          subst hrk
          have d3 := toNat_ne c3
          obtain ⟨x, hx⟩ : ∃ x : Int, ((b[q + k]).toNat : Int) = x := ⟨_, rfl⟩
          obtain ⟨y, hy⟩ : ∃ y : Int, ((b[p + k]).toNat : Int) = y := ⟨_, rfl⟩
          rw [hx] at b2 d3
          rw [hy] at b1 d3
          have d2 : decide ((q : Int) + (k : Int) < (b.length : Int)) = true := by simp; omega
          have s1 : IntKind.i64.wrap ((q : Int) + (k : Int)) = (q : Int) + (k : Int) := IntWalk.i64_in _ (by omega)
          have s2 : IntKind.i64.wrap ((p : Int) + (k : Int)) = (p : Int) + (k : Int) := IntWalk.i64_in _ (by omega)
          have s3 : 0 ≤ (q : Int) + (k : Int) := by omega
          have s4 : 0 ≤ (p : Int) + (k : Int) := by omega
          have s5 : ((q : Int) + (k : Int)).toNat = q + k := by omega
          have s6 : ((p : Int) + (k : Int)).toNat = p + k := by omega
          have s7 : (p : Int) + (k : Int) < (b.length : Int) := by omega
          have s8 : (q : Int) + (k : Int) < (b.length : Int) := by omega
          clear hx hy e1 e2 c3 c1 c2
          go_quiet (fail)
          clear s1 s2 s3 s4 s5 s6 s7 s8
          go_wp2
          go_ret
          exact ⟨rfl, _, World.drewN_drewN _ _ _⟩
      · have hrk := HG.out
        rw [alikeGo_no (fun _ hc => absurd hc c2)] at hrk
        subst hrk
        have d2 : decide ((q : Int) + (k : Int) < (b.length : Int)) = false := by simp; omega
        have s1 : IntKind.i64.wrap ((q : Int) + (k : Int)) = (q : Int) + (k : Int) := IntWalk.i64_in _ (by omega)
        clear c1 c2
        go_quiet (fail)
        clear s1
        go_wp2
        go_ret
        exact ⟨rfl, _, World.drewN_drewN _ _ _⟩
    · have hrk := HG.out
      rw [alikeGo_no (fun hc => absurd hc c1)] at hrk
      subst hrk
      have d1 : decide ((k : Int) < 258) = false := by simp; omega
      clear c1
      go_quiet (fail)
      go_wp2
      go_ret
      exact ⟨rfl, _, World.drewN_drewN _ _ _⟩
end Go.Proofs.Ytaoodggdopdkeaa
