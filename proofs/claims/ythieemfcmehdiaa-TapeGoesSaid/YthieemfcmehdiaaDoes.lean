/- does: any step, in both alike. -/
import Derived.Test.YthieemfcmehdiaaDoesSync
import Derived.Test.YthieemfcmehdiaaDoesOther
import Derived.Test.YthieemfcmehdiaaDoesCrash
import Derived.Test.YthieemfcmehdiaaDoesCut
import Derived.Test.YthieemfcmehdiaaDoesMark
import Derived.Test.YthieemfcmehdiaaDoesAppend
namespace Go.Proofs.Ythieemfcmehdiaa
open Go.RowKit
/-- a filemark has no bytes -/
def Marked (xs : List Thing) : Prop := ∀ x ∈ xs, x.1 = true → x.2 = []
theorem Marked.take {xs : List Thing} (h : Marked xs) (n : Nat) : Marked (xs.take n) := fun x hx => h x (List.mem_of_mem_take hx)
theorem Marked.append {xs ys : List Thing} (h : Marked xs) (h2 : Marked ys) : Marked (xs ++ ys) := fun x hx => (List.mem_append.1 hx).elim (h x) (h2 x)
theorem marked_tail (x : Option Thing) (torn : Int) : Marked (tailOf x torn) := by
  intro y hy
  unfold tailOf at hy
  split at hy
  · split at hy
    · simp at hy; subst hy; intro h; cases h
    · cases hy
  · cases hy
theorem does_any {w : World} {T cap safe c c2 : Nat} {xs : List Thing} {A A2 : Option Addr} (h : IsTape w T cap xs safe A c) (hr : RefIs w T cap xs safe A2 c2) (v n m : Int) (B : Option Addr) (k : Nat) (l : List UInt8) (hB : BytesOut w T B k l) (hl : l.length ≤ 200) :
    Calls Try.prog 12 #[.pointer (some ⟨T, 0, none⟩), refV cap xs.length safe A2 c2, .agg #[.int .i64 v, .int .i64 n, .int .i64 m, .slice B l.length k]] w fun e w' => ∃ ys s, Did w w' T cap ys s e ∧ (Marked xs → Marked ys) := by
  by_cases h0 : v = 0
  · subst h0
    rcases Nat.lt_or_ge cap (used xs + (8 + l.length)) with hc | hc
    · exact (does_append_no h hr n m B k l hB hl hc).mono fun e w' q => ⟨_, _, q, id⟩
    · exact (does_append_yes h hr n m B k l hB hl hc).mono fun e w' q => ⟨_, _, q, fun hm => hm.append (by intro y hy; simp at hy; subst hy; intro h; cases h)⟩
  by_cases h1 : v = 1
  · subst h1
    rcases Nat.lt_or_ge cap (used xs + 8) with hc | hc
    · exact (does_mark_no h hr n m B l.length k hc).mono fun e w' q => ⟨_, _, q, id⟩
    · exact (does_mark_yes h hr n m B l.length k hc).mono fun e w' q => ⟨_, _, q, fun hm => hm.append (by intro y hy; simp at hy; subst hy; intro _; rfl)⟩
  by_cases h2 : v = 2
  · subst h2
    exact (does_sync h hr n m B l.length k).mono fun e w' q => ⟨_, _, q, id⟩
  by_cases h3 : v = 3
  · subst h3
    by_cases hn : n < 0 ∨ (xs.length : Int) < n
    · exact (does_cut_no h hr n m B l.length k hn).mono fun e w' q => ⟨_, _, q, id⟩
    · obtain ⟨n', rfl⟩ : ∃ n' : Nat, n = n' := ⟨n.toNat, by omega⟩
      exact (does_cut_yes h hr n' m B l.length k (by omega)).mono fun e w' q => ⟨_, _, q, fun hm => hm.take _⟩
  by_cases h4 : v = 4
  · subst h4
    exact (does_crash h hr n m B l.length k _ rfl _ rfl _ rfl).mono fun e w' q => ⟨_, _, q, fun hm => (hm.take _).append (marked_tail _ _)⟩
  · exact (does_other h hr v n m B l.length k h0 h1 h2 h3 h4).mono fun e w' q => ⟨_, _, q, id⟩
end Go.Proofs.Ythieemfcmehdiaa
