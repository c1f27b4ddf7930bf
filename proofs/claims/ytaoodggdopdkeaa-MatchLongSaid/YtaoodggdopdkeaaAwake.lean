/- awake; Parse's row of tokens, read. -/
import Derived.Lib.SlBytesConst
import Derived.Test.YtaoodggdopdkeaaGiven
import Derived.Test.YtaoodggdopdkeaaParse
namespace Go.Proofs.Ytaoodggdopdkeaa
open Go.RowKit

theorem ofTk_wf {b : List UInt8} {win : Nat} (hn : b.length ≤ 1000000) (hwin : win ≤ 32768) : ∀ fuel q, ∀ t ∈ (Plain.toksF b win fuel q).map ofTk, t.wf
  | 0, q, t, h => by simp [Plain.toksF] at h
  | fuel + 1, q, t, h => by
    unfold Plain.toksF at h
    split at h
    · rename_i hq
      simp only [List.map_cons, List.mem_cons] at h
      rcases h with rfl | h
      · have h1 := Plain.bestTo_le b q (min win q) (by omega)
        have h2 : (Plain.bestTo b q (min win q)).2 ≤ 32768 := by
          rcases Plain.bestTo_hit b q (min win q) with e | ⟨_, _, h, _⟩
          · rw [e]; decide
          · omega
        unfold Plain.tokAt ofTk Tok.wf
        simp only
        omega
      · exact ofTk_wf hn hwin fuel _ t h
    · simp at h
theorem allToks_len (b : List UInt8) (win : Nat) : (allToks b win).length ≤ b.length := by
  have := toksF_len b win b.length 0
  simpa [allToks, Plain.toks] using this
/-- Parse: a slice that reads as the plain law's tokens -/
theorem parse_reads (A : Option Addr) (c win : Nat) (b : List UInt8) (w : World) (hb : Reads w A (bytesV b)) (hA : A = none → c = 0) (hc : b.length ≤ c) (hn : b.length ≤ 1000000) (h1 : 1 ≤ win) (h2 : win ≤ 32768) :
    Calls Try.prog 10 #[.slice A b.length c, .int .i64 win] w fun e w' => ∃ A' c', e = .returned (.slice A' (allToks b win).length c') ∧ ReadsT w' A' (allToks b win) ∧ (A' = none → c' = 0) ∧ (allToks b win).length ≤ c' ∧ Below w.heap.size w w' := by
  refine (parse_yes A c win b w hb hA hc hn h1 h2).mono ?_
  rintro e w' ⟨v, rfl, ho, hb'⟩
  obtain ⟨A', c', rfl, hr, hz, hl⟩ := own_readsT ho (by have := allToks_len b win; omega) (ofTk_wf hn h2 _ _)
  exact ⟨A', c', rfl, hr, hz, hl, hb'⟩
def abc : List UInt8 := [97, 98, 99, 97, 98, 99, 97, 98, 99, 100]
theorem abc_toks : allToks abc 100 = [⟨97, 0, 0⟩, ⟨98, 0, 0⟩, ⟨99, 0, 0⟩, ⟨0, 6, 3⟩, ⟨100, 0, 0⟩] := by decide +kernel
set_option maxHeartbeats 2000000 in
set_option maxRecDepth 100000 in
theorem awake_any (w : World) : Calls Try.prog 9 #[] w fun e w' => e = .returned (.bool true) ∧ Below w.heap.size w w' := by
  have kc := fun (w : World) (C : Array Value) (n c : Nat) => Lib.run_convert_bytes_const (P := Try.prog) w 22 5 C n c Try.underlying22 Try.underlying5
  go_enter Try.func9, Try.ntmps9
  go_wp2_with fail
  obtain ⟨W0, hW0⟩ : ∃ W0, w.alloc (.cells #[.int .u8 97, .int .u8 98, .int .u8 99, .int .u8 97, .int .u8 98, .int .u8 99, .int .u8 97, .int .u8 98, .int .u8 99, .int .u8 100] 5 (10, 11)) = W0 := ⟨_, rfl⟩
  have hr : Reads W0 (some ⟨w.heap.size, 0, none⟩) (bytesV abc) := ⟨by decide, fun i hi => ⟨_, rfl, by
    rw [← hW0, add_plain', cell_new]
    have e : (#[Value.int .u8 97, .int .u8 98, .int .u8 99, .int .u8 97, .int .u8 98, .int .u8 99, .int .u8 97, .int .u8 98, .int .u8 99, .int .u8 100] : Array Value)[i]? = (bytesV abc)[i]? := by
      rw [List.getElem?_toArray]; rfl
    rw [e, List.getElem?_eq_getElem hi]⟩⟩
  have b0 : Below w.heap.size w W0 := by rw [← hW0]; exact below_new _ _
  have B0 := hid b0
  rw [hW0]
  clear hW0 b0 kc
  refine (parse_reads (some ⟨w.heap.size, 0, none⟩) 10 100 abc W0 hr (fun h => by cases h) (by decide) (by decide) (by decide) (by decide)).mono ?_
  rintro e w1 ⟨A, c, rfl, ht, hA, hc, b1⟩
  rw [abc_toks] at ht hc ⊢
  obtain ⟨ad, rfl, x0, x1, x2, _⟩ := ht.2 0 (by decide)
  obtain ⟨_, e3, y0, y1, y2, _⟩ := ht.2 3 (by decide)
  cases e3
  obtain ⟨_, e4, z0, z1, z2, _⟩ := ht.2 4 (by decide)
  cases e4
  have p0 : w1.cell? ad = some (.int .u8 97) := x0
  have p1 : w1.cell? ⟨ad.block, ad.off + 1, none⟩ = some (.int .i64 0) := x1
  have p2 : w1.cell? ⟨ad.block, ad.off + 2, none⟩ = some (.int .i64 0) := x2
  have q0 : w1.cell? ⟨ad.block, ad.off + 9, none⟩ = some (.int .u8 0) := y0
  have q1 : w1.cell? ⟨ad.block, ad.off + 9 + 1, none⟩ = some (.int .i64 6) := y1
  have q2 : w1.cell? ⟨ad.block, ad.off + 9 + 2, none⟩ = some (.int .i64 3) := y2
  have r0 : w1.cell? ⟨ad.block, ad.off + 12, none⟩ = some (.int .u8 100) := z0
  clear x0 x1 x2 y0 y1 y2 z0 z1 z2
  have HT := hid ht
  have B1 := hid (below_trans B0.out b1)
  simp only [List.length_cons, List.length_nil, Nat.zero_add, Nat.reduceAdd] at hc ⊢
  clear ht hr hA b1
  go_wp2_with fail
  refine (size_any (some ad) c _ w1 HT.out (by decide)).mono ?_
  rintro e w2 ⟨rfl, b2⟩
  have s0 := cell_below b2 p0
  have s1 := cell_below b2 p1
  have s2 := cell_below b2 p2
  have B2 := hid b2
  clear b2 p0 p1 p2 q0 q1 q2 r0
  rw [show sizeT [⟨97, 0, 0⟩, ⟨98, 0, 0⟩, ⟨99, 0, 0⟩, ⟨0, 6, 3⟩, ⟨100, 0, 0⟩] = 10 by decide]
  go_wp2_with fail
  refine (right_any ⟨97, 0, 0⟩ w2).mono ?_
  rintro e w3 ⟨rfl, b3⟩
  rw [show rightB ⟨97, 0, 0⟩ = true by decide]
  have B3 := hid b3
  clear b3 s0 s1 s2
  go_wp2
  go_ret
  exact ⟨rfl, below_trans (below_trans B1.out B2.out) B3.out⟩
end Go.Proofs.Ytaoodggdopdkeaa
