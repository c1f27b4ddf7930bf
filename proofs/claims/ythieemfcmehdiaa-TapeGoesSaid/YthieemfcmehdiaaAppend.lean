/- Append and Mark of a tape; awake. -/
import Derived.Test.YthieemfcmehdiaaPutYes
namespace Go.Proofs.Ythieemfcmehdiaa
open Go.RowKit
section
variable {w : World} {T cap safe c : Nat} {xs : List Thing} {A : Option Addr}
set_option maxRecDepth 100000 in
theorem append_row (h : IsTape w T cap xs safe A c) (B : Option Addr) (k : Nat) (l : List UInt8) (hB : Reads w B (bytesV l)) (hk : B = none → k = 0) (hr : used xs + (8 + l.length) ≤ cap) :
    Calls Try.prog 23 #[.pointer (some ⟨T, 0, none⟩), .slice B l.length k] w fun e w' => e = .returned (.int .i64 0) ∧ ∃ A' c', IsTape w' T cap (xs ++ [(false, l)]) safe A' c' ∧ Touch [T] w w' ∧ ∃ (w1 : World) (B' : Option Addr) (k' : Nat), Below w.heap.size w w1 ∧ BytesOut w1 T B' k' l ∧ (∀ bd, B' = some bd → w.heap.size ≤ bd.block) ∧ PutRow w1 w' A xs.length A' (.bool false) (.slice B' l.length k') ∧ Touch [T] w1 w' := by
  have H := hid h
  have HB := hid hB
  have HK := hid hk
  have hs := h.small
  clear h hB hk
  go_enter Try.func23, Try.ntmps23
  go_wp2_with fail
  refine (clone_any B k l w HB.out HK.out (by omega)).mono ?_
  rintro e w1 ⟨B', k', rfl, hr1, hz1, hf1, b1⟩
  have H1 := hid (H.out.below b1)
  have HO1 : Hid (BytesOut w1 T B' k' l) := hid ⟨hr1, hz1, fun _ bd e => by have := (hf1 bd e).1; have := H.out.lt; omega⟩
  have HF1 : Hid (∀ bd, B' = some bd → w.heap.size ≤ bd.block) := hid (fun bd e => (hf1 bd e).1)
  have B1 := hid b1
  clear hr1 hz1 hf1 b1
  go_wp2_with fail
  refine (put_row H1.out false B' k' l HO1.out hr).mono ?_
  rintro e w2 ⟨rfl, A2, c2, h2, t2, p2⟩
  have P2 := hid p2
  have H2 := hid h2
  have T2 := hid t2
  clear h2 t2 p2
  go_wp2
  go_ret
  exact ⟨rfl, A2, c2, H2.out, (Touch.of_below B1.out [T]).trans T2.out (by simp), w1, B', k', B1.out, HO1.out, HF1.out, P2.out, T2.out⟩
theorem append_yes (h : IsTape w T cap xs safe A c) (B : Option Addr) (k : Nat) (l : List UInt8) (hB : Reads w B (bytesV l)) (hk : B = none → k = 0) (hr : used xs + (8 + l.length) ≤ cap) :
    Calls Try.prog 23 #[.pointer (some ⟨T, 0, none⟩), .slice B l.length k] w fun e w' => e = .returned (.int .i64 0) ∧ ∃ A' c', IsTape w' T cap (xs ++ [(false, l)]) safe A' c' ∧ Touch [T] w w' :=
  (append_row h B k l hB hk hr).mono fun e w' q => ⟨q.1, by obtain ⟨A', c', h1, h2, _⟩ := q.2; exact ⟨A', c', h1, h2⟩⟩
set_option maxRecDepth 100000 in
theorem append_no (h : IsTape w T cap xs safe A c) (B : Option Addr) (k : Nat) (l : List UInt8) (hB : Reads w B (bytesV l)) (hk : B = none → k = 0) (hn : l.length ≤ 20000000) (hr : cap < used xs + (8 + l.length)) :
    Calls Try.prog 23 #[.pointer (some ⟨T, 0, none⟩), .slice B l.length k] w fun e w' => e = .returned (.int .i64 11) ∧ Below w.heap.size w w' := by
  have H := hid h
  have HB := hid hB
  have HK := hid hk
  clear h hB hk
  go_enter Try.func23, Try.ntmps23
  go_wp2_with fail
  refine (clone_any B k l w HB.out HK.out hn).mono ?_
  rintro e w1 ⟨B', k', rfl, _, _, _, b1⟩
  have H1 := hid (H.out.below b1)
  have B1 := hid b1
  clear b1
  go_wp2_with fail
  refine (put_no H1.out false B' l.length k' hn hr).mono ?_
  rintro e w2 ⟨rfl, b2⟩
  have B2 := hid b2
  clear b2
  go_wp2
  go_ret
  exact ⟨rfl, below_trans B1.out B2.out⟩
theorem bytesOut_nil (w : World) (T : Nat) : BytesOut w T none 0 [] := ⟨⟨by simp [bytesV], fun i hi => by simp [bytesV] at hi⟩, ⟨fun _ => rfl, by simp⟩, fun h => absurd rfl h⟩
set_option maxRecDepth 100000 in
theorem mark_yes (h : IsTape w T cap xs safe A c) (hr : used xs + 8 ≤ cap) :
    Calls Try.prog 24 #[.pointer (some ⟨T, 0, none⟩)] w fun e w' => e = .returned (.int .i64 0) ∧ ∃ A' c', IsTape w' T cap (xs ++ [(true, [])]) safe A' c' ∧ Touch [T] w w' := by
  have H := hid h
  clear h
  go_enter Try.func24, Try.ntmps24
  go_wp2_with fail
  refine (put_yes H.out true none 0 [] (bytesOut_nil w T) (by simpa using hr)).mono ?_
  rintro e w2 ⟨rfl, A2, c2, h2, t2⟩
  have H2 := hid h2
  have T2 := hid t2
  clear h2 t2
  go_wp2
  go_ret
  exact ⟨rfl, A2, c2, H2.out, T2.out⟩
set_option maxRecDepth 100000 in
theorem mark_no (h : IsTape w T cap xs safe A c) (hr : cap < used xs + 8) :
    Calls Try.prog 24 #[.pointer (some ⟨T, 0, none⟩)] w fun e w' => e = .returned (.int .i64 11) ∧ Below w.heap.size w w' := by
  have H := hid h
  clear h
  go_enter Try.func24, Try.ntmps24
  go_wp2_with fail
  refine (put_no H.out true none 0 0 (by omega) (by simpa using hr)).mono ?_
  rintro e w2 ⟨rfl, b2⟩
  have B2 := hid b2
  clear b2
  go_wp2
  go_ret
  exact ⟨rfl, B2.out⟩
end
/-- n zeros -/
def zeros (n : Nat) : List UInt8 := List.replicate n 0
theorem reads_zeros {w : World} {g n : Nat} {cs : Array Value} (h : w.heap[g]? = some (.cells cs 5 (0, 0))) (hc : cs = (bytesV (zeros n)).toArray) (hn : n ≤ 1000) : Reads w (some ⟨g, 0, none⟩) (bytesV (zeros n)) := by
  refine ⟨by simp [bytesV, zeros]; omega, fun i hi => ⟨_, rfl, ?_⟩⟩
  rw [add_plain', cell_of_row w g i _ _ _ h, hc]
  simp [List.getElem?_eq_getElem hi]
set_option maxHeartbeats 1000000 in
set_option maxRecDepth 100000 in
theorem awake_any (w : World) : Calls Try.prog 11 #[] w fun e w' => e = .returned (.bool true) ∧ Below w.heap.size w w' := by
  have m10 : ∀ W : World, (Instr.makeSlice 30 (.int .i64 10) (.int .i64 10)).run Try.prog W = .ok (.slice (some ⟨W.heap.size, 0, none⟩) 10 10) (W.alloc (.cells (bytesV (zeros 10)).toArray 5)) := fun _ => by kernel_rfl
  have m5 : ∀ W : World, (Instr.makeSlice 30 (.int .i64 5) (.int .i64 5)).run Try.prog W = .ok (.slice (some ⟨W.heap.size, 0, none⟩) 5 5) (W.alloc (.cells (bytesV (zeros 5)).toArray 5)) := fun _ => by kernel_rfl
  go_enter Try.func11, Try.ntmps11
  go_wp2_with fail
  refine (new_yes 30 w (by decide)).mono ?_
  rintro e w1 ⟨rfl, hw1⟩
  have h1 := tape_new w 30 (by decide)
  rw [← hw1] at h1
  have b1 : Below w.heap.size w w1 := by rw [hw1]; exact below_new _ _
  have H1 := hid h1
  have B1 := hid b1
  obtain ⟨T, hT⟩ : ∃ T, w.heap.size = T := ⟨_, rfl⟩
  rw [hT] at H1 B1 ⊢
  have HT := hid hT
  clear hw1 h1 b1 hT
  go_wp2_with fail
  have hr1 := reads_zeros (block_new w1 (.cells (bytesV (zeros 10)).toArray 5)) rfl (by decide)
  refine (append_yes (H1.out.below (below_new w1 (.cells (bytesV (zeros 10)).toArray 5))) (some ⟨w1.heap.size, 0, none⟩) 10 (zeros 10) hr1 (fun h => by cases h) (by decide)).mono ?_
  rintro e w2 ⟨rfl, A2, c2, h2, t2⟩
  have H2 := hid h2
  have hT1 : T < w1.heap.size := H1.out.lt
  have B2 : Hid (Below T w w2) := hid (Touch.below (B1.out.alloc (by omega) (.cells (bytesV (zeros 10)).toArray 5)) (by simp; omega) t2 (by simp))
  clear hr1 h2 t2
  go_wp2_with fail
  refine (sync_any H2.out).mono ?_
  rintro e w3 ⟨⟨v3, rfl⟩, hw3⟩
  have h3 := H2.out.synced
  rw [← hw3] at h3
  have H3 := hid h3
  have B3 : Hid (Below T w w3) := hid (by rw [hw3]; exact B2.out.setCell (p := ⟨T, 2, none⟩) (Nat.le_refl _) _)
  clear hw3 h3
  go_wp2_with fail
  refine (room_any H3.out).mono ?_
  rintro e w4 ⟨rfl, m4, rfl⟩
  rw [show ((30 : Nat) : Int) - (used ([] ++ [(false, zeros 10)]) : Nat) = 12 by decide]
  have c4 := Calm.of_drewN w3 m4
  have H4 := hid (H3.out.below (c4.below _))
  have B4 := hid (B3.out.trans (c4.below _))
  obtain ⟨W4, hW4⟩ : ∃ W, w3.drewN m4 = W := ⟨_, rfl⟩
  rw [hW4] at H4 B4 ⊢
  clear hW4 c4
  go_wp2_with fail
  have hr5 := reads_zeros (block_new W4 (.cells (bytesV (zeros 5)).toArray 5)) rfl (by decide)
  refine (append_no (H4.out.below (below_new W4 (.cells (bytesV (zeros 5)).toArray 5))) (some ⟨W4.heap.size, 0, none⟩) 5 (zeros 5) hr5 (fun h => by cases h) (by decide) (by decide)).mono ?_
  rintro e w5 ⟨rfl, b5⟩
  have H5 := hid ((H4.out.below (below_new W4 (.cells (bytesV (zeros 5)).toArray 5))).below b5)
  have B5 := hid (below_tr (B4.out.alloc (by have := H4.out.lt; omega) (.cells (bytesV (zeros 5)).toArray 5)) (by have := H4.out.lt; simp; omega) b5)
  clear hr5 b5
  go_wp2_with fail
  refine (safe_any H5.out).mono ?_
  rintro e w6 ⟨rfl, rfl⟩
  go_wp2_with fail
  refine (len_any H5.out).mono ?_
  rintro e w7 ⟨rfl, rfl⟩
  go_wp2_with fail
  refine (early_any H5.out).mono ?_
  rintro e w8 ⟨rfl, m8, rfl⟩
  rw [show decide (8 * (((30 : Nat) : Int) - (used ([] ++ [(false, zeros 10)]) : Nat)) < ((30 : Nat) : Int)) = false by decide]
  have B8 := hid (B5.out.trans ((Calm.of_drewN w7 m8).below _))
  go_wp2
  go_ret
  exact ⟨rfl, by rw [HT.out]; exact B8.out⟩
end Go.Proofs.Ythieemfcmehdiaa
