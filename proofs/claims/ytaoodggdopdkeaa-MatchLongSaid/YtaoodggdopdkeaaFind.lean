/- The finder in memory: its map of places by three bytes, and its row of places ahead. -/
import Derived.DeepKeys4
import Derived.WideKeyPair
import Derived.Maps.OwnSet
import Derived.Test.YtaoodggdopdkeaaBase
namespace Go.Proofs.Ytaoodggdopdkeaa
open Go.RowKit Go.WideMaps

theorem cells36 : Try.prog.cellsOf 36 = 3 := by kernel_rfl
theorem arr36 : ArrKey Try.prog 36 5 3 := ⟨Try.underlying36, by kernel_rfl, by kernel_rfl, cells36⟩
theorem hsz : ∃ m, Try.prog.types.size = m + 1 := ⟨Try.prog.types.size - 1, by kernel_rfl⟩
theorem law36 : Maps.Keyed Try.prog 36 := Maps.Keyed.of_law arr36.law
def keyLit (k : List UInt8) : Lit := .string (keyBytes (k.map fun b => Lit.int .u8 b.toNat))
theorem keyLit_key (k : List UInt8) : WideAt.IsKeyLit (keyLit k) := by unfold keyLit; trivial
theorem keyOf_three {P : Program} {k e : TypeId} {q : IntKind} (A : ArrKey P k e 3) (he : P.underlying e = some (.int q)) (hsz : ∃ m, P.types.size = m + 1) {a b c : Int} (wa : (Lit.int q a).wf = true) (wb : (Lit.int q b).wf = true) (wc : (Lit.int q c).wf = true) :
    keyOf P k (.agg #[.int q a, .int q b, .int q c]) = some (.string (keyBytes [.int q a, .int q b, .int q c])) := by
  have hkt := A.keyType hsz
  obtain ⟨m, hm⟩ := hsz
  unfold keyOf
  simp only [A.hu]
  rw [if_pos (by simp [hkt, Value.formed, A.hu, A.size]), hm]
  unfold Program.keyLits
  simp only [A.hu, Value.cells]
  rw [if_pos (by rw [A.size]; rfl), show List.range 3 = [0, 1, 2] from rfl, List.mapM_cons, List.mapM_cons, List.mapM_cons, List.mapM_nil]
  simp [A.one, Program.keyLits, he, wa, wb, wc]
theorem u8_wf (b : UInt8) : (Lit.int .u8 b.toNat).wf = true := by
  have := b.toNat_lt
  simp [Lit.wf, IntKind.min, IntKind.max, IntKind.signed, IntKind.bits]
  omega
theorem key_three (x y z : UInt8) : keyOf Try.prog 36 (.agg #[.int .u8 x.toNat, .int .u8 y.toNat, .int .u8 z.toNat]) = some (keyLit [x, y, z]) :=
  keyOf_three arr36 Try.underlying5 hsz (u8_wf x) (u8_wf y) (u8_wf z)
theorem keyLit_inj {k k' : List UInt8} (hk : k.length = 3) (hk' : k'.length = 3) (h : keyLit k = keyLit k') : k = k' := by
  match k, hk, k', hk' with
  | [x, y, z], _, [x', y', z'], _ =>
    have := law36.inj (key_three x y z) (by rw [h]; exact key_three x' y' z')
    simp only [Value.agg.injEq, Array.mk.injEq, List.cons.injEq, Value.int.injEq, true_and, and_true] at this
    obtain ⟨h1, h2, h3⟩ := this
    have e1 : x = x' := UInt8.toNat_inj.1 (by omega)
    have e2 : y = y' := UInt8.toNat_inj.1 (by omega)
    have e3 : z = z' := UInt8.toNat_inj.1 (by omega)
    rw [e1, e2, e3]

/-- the map tells the nearest place below m of each three bytes -/
def MapIs (D : DataW Unit) (b : List UInt8) (m : Nat) : Prop :=
  Maps.IsMap D ∧ ∀ k : List UInt8, k.length = 3 → D.atKey (keyLit k) (.lit (.int .i64 0)) = .lit (.int .i64 (((Plain.lastOf b k m).getD 0 : Nat) : Int)) ∧ Maps.has D (keyLit k) = (Plain.lastOf b k m).isSome
theorem MapIs.start (b : List UInt8) : MapIs (.map []) b 0 := ⟨Maps.isMap_empty, fun _ _ => ⟨rfl, rfl⟩⟩
theorem MapIs.put {D : DataW Unit} {b : List UInt8} {m : Nat} (h : MapIs D b m) (hm : m + 3 ≤ b.length) : MapIs (D.put (keyLit (Plain.key b m)) (.lit (.int .i64 m))) b (m + 1) := by
  have hkl : (Plain.key b m).length = 3 := by simp [Plain.key]; omega
  refine ⟨h.1.put _ _, fun k hk => ?_⟩
  have e : Plain.lastOf b k (m + 1) = if Plain.key b m = k then some m else Plain.lastOf b k m := by
    show (if m + 3 ≤ b.length ∧ Plain.key b m = k then _ else _) = _
    by_cases h' : Plain.key b m = k
    · rw [if_pos ⟨hm, h'⟩, if_pos h']
    · rw [if_neg (fun x => h' x.2), if_neg h']
  rw [e]
  by_cases h' : Plain.key b m = k
  · subst h'
    rw [if_pos rfl]
    exact ⟨Maps.atKey_put_same h.1 (keyLit_key _) _ _, Maps.has_put_same h.1 (keyLit_key _) _⟩
  · rw [if_neg h']
    have hne : keyLit k ≠ keyLit (Plain.key b m) := fun x => h' (keyLit_inj hkl hk x.symm)
    rw [Maps.atKey_put_other hne, Maps.has_put_other hne]
    exact h.2 k hk
theorem MapIs.over {D : DataW Unit} {b : List UInt8} {m : Nat} (h : MapIs D b m) (hm : b.length < m + 3) : MapIs D b (m + 1) := by
  refine ⟨h.1, fun k hk => ?_⟩
  have e : Plain.lastOf b k (m + 1) = Plain.lastOf b k m := if_neg (by omega)
  rw [e]
  exact h.2 k hk
end Go.Proofs.Ytaoodggdopdkeaa
