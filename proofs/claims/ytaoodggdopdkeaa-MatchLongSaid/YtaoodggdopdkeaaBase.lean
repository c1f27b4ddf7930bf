/- Tokens in memory; which may be; their size. -/
import Derived.Test.YtaoodggdopdkeaaGen
import Derived.Test.YtaoodggdopdkeaaPlain
import Derived.RegionTactic
import Derived.Deep.QuietTactic
import Derived.BigQuiet
import Derived.BigRegion
import Derived.IntWalk
import Derived.LoopTactic
import Derived.Maps.AppendAt
import Derived.Lib.SliceRun
namespace Go.Proofs.Ytaoodggdopdkeaa
open Go.RowKit

def bytesV (l : List UInt8) : List Value := l.map fun b => .int .u8 b.toNat
theorem bytesV_length (l : List UInt8) : (bytesV l).length = l.length := by simp [bytesV]
/-- a token as it lies in memory -/
structure Tok where
  lit : UInt8
  len : Int
  back : Int
deriving DecidableEq
def tokV (t : Tok) : List Value := [.int .u8 t.lit.toNat, .int .i64 t.len, .int .i64 t.back]
def Tok.agg (t : Tok) : Value := .agg #[.int .u8 t.lit.toNat, .int .i64 t.len, .int .i64 t.back]
def Tok.wf (t : Tok) : Prop := -9223372036854775808 ≤ t.len ∧ t.len ≤ 9223372036854775807 ∧ -9223372036854775808 ≤ t.back ∧ t.back ≤ 9223372036854775807
def ofTk (t : Plain.Tk) : Tok := ⟨t.lit, t.len, t.back⟩
/-- may a token be -/
def rightB (t : Tok) : Bool := if t.len = 0 then decide (t.back = 0) else decide (3 ≤ t.len ∧ t.len ≤ 258 ∧ 1 ≤ t.back ∧ t.back ≤ 32768 ∧ t.lit = 0)
/-- a slice of tokens, read -/
def ReadsT (w : World) (A : Option Addr) (l : List Tok) : Prop :=
  l.length ≤ 9223372036854775807 ∧ ∀ i (h : i < l.length), ∃ ad, A = some ad ∧ w.cell? (ad.add (i * 3)) = some (.int .u8 l[i].lit.toNat) ∧ w.cell? ⟨(ad.add (i * 3)).block, (ad.add (i * 3)).off + 1, none⟩ = some (.int .i64 l[i].len) ∧ w.cell? ⟨(ad.add (i * 3)).block, (ad.add (i * 3)).off + 2, none⟩ = some (.int .i64 l[i].back) ∧ l[i].wf
theorem ReadsT.below {w w' : World} {A : Option Addr} {l : List Tok} (h : ReadsT w A l) (hb : Below w.heap.size w w') : ReadsT w' A l :=
  ⟨h.1, fun i hi => by obtain ⟨ad, e, c0, c1, c2, hw⟩ := h.2 i hi; exact ⟨ad, e, cell_below hb c0, cell_below hb c1, cell_below hb c2, hw⟩⟩

theorem ret_bool {a b : Bool} (h : a = b) : Ending.returned (.bool a) = .returned (.bool b) := by rw [h]
theorem ret_int {k : IntKind} {a b : Int} (h : a = b) : Ending.returned (.int k a) = .returned (.int k b) := by rw [h]
theorem u8_zero (c : UInt8) : ((c.toNat : Int) = 0) ↔ c = 0 := by
  constructor
  · intro h; apply UInt8.toNat_inj.1; show c.toNat = 0; omega
  · rintro rfl; rfl
set_option maxRecDepth 100000 in
theorem right_any (t : Tok) (w : World) : Calls Try.prog 15 #[t.agg] w fun e w' => e = .returned (.bool (rightB t)) ∧ Below w.heap.size w w' := by
  obtain ⟨c, n, k⟩ := t
  unfold Tok.agg
  obtain ⟨x, hx⟩ : ∃ x : Int, (c.toNat : Int) = x := ⟨_, rfl⟩
  have hc := u8_zero c
  rw [hx] at hc
  simp only [hx]
  obtain ⟨v, hv⟩ : ∃ v, rightB ⟨c, n, k⟩ = v := ⟨_, rfl⟩
  have HV := hid hv
  rw [hv]
  have HC := hid hc
  clear hv hx hc
  go_enter Try.func15, Try.ntmps15
  go_wp2
  all_goals
    go_ret
    refine ⟨ret_bool ?_, by go_grown⟩
    have hc := HC.out
    rw [← HV.out, Bool.eq_iff_iff]
    simp [rightB, ← hc] at *
    try (first | omega | (split <;> omega))
end Go.Proofs.Ytaoodggdopdkeaa
