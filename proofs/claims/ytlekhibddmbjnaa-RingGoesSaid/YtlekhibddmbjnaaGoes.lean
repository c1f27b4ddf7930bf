/- The walk of RingGoes. -/
import Derived.Test.YtlekhibddmbjnaaNobody
import Derived.Test.YtlekhibddmbjnaaStrAll
import Derived.MapKept
import Derived.Test.YtlekhibddmbjnaaRound
namespace Go.Proofs.Ytlekhibddmbjnaa.Str
open Go.RowKit Go.Shelf
attribute [local go_sem] Oper.semAt_some

theorem ownFrom_keepB {β : Type} {B : Nat} {S : List Nat} {W0 : World} (hS : ∀ x ∈ S, x < W0.heap.size) (hB : W0.heap.size ≤ B) : OwnFrom B (fun (_ : β) W => KeepB S W0 W) :=
  fun _ X _ _ hs hg hr b hb => by
    have h0 := hs b hb
    have hX : b < X.heap.size := by
      have h1 := hS b hb
      rw [Array.getElem?_eq_getElem h1] at h0
      exact (Array.getElem?_eq_some_iff.1 h0).1
    exact (hg.block b hX (fun e => by have := (hr b e.symm).1; have := hS b hb; omega)).trans h0
theorem ownFrom_or {β : Type} {B : Nat} {I I' : β → World → Prop} (h : OwnFrom B I) (h' : OwnFrom B I') : OwnFrom B (fun s W => I s W ∨ I' s W) :=
  fun s W W' row hs hg hr => hs.elim (fun k => .inl (h s W W' row k hg hr)) (fun k => .inr (h' s W W' row k hg hr))
theorem KeepB.cell {S : List Nat} {W W' : World} (h : KeepB S W W') {p : Addr} (hp : p.block ∈ S) : W'.cell? p = W.cell? p := World.cell?_of_block (w := W) (h _ hp)
theorem KeepB.frozen {S : List Nat} {W W' : World} (h : KeepB S W W') {p : Addr} (hp : p.block ∈ S) : W'.frozen? p = W.frozen? p := World.frozen?_of_block (w := W) (h _ hp)
theorem Touch.cell {T : List Nat} {w w' : World} (h : Touch T w w') {p : Addr} {u : Value} (hc : w.cell? p = some u) (hp : p.block ∉ T) : w'.cell? p = some u :=
  (World.cell?_of_block (w := w) (h.block _ (World.block_lt_of_cell? w _ hc) hp)).trans hc

theorem bytes_other {a b : ByteArray} (h : a ≠ b) : ¬ a.toList = b.toList := fun e => h (by
  rw [ByteArray.toList_eq, ByteArray.toList_eq] at e
  cases a; cases b
  simp at e
  rw [e])
theorem prefix_snoc' {α : Type} {pre l : List α} {x : α} (h : pre <+: l) (hl : pre.length < l.length) (hx : l[pre.length] = x) : pre ++ [x] <+: l := by
  obtain ⟨t, rfl⟩ := h
  cases t with
  | nil => simp at hl
  | cons y t => simp at hx; subst hx; exact ⟨t, by simp⟩
theorem not_snoc' {α : Type} {pre l : List α} {x : α} (hl : pre.length < l.length) (hx : l[pre.length] ≠ x) : ¬ pre ++ [x] <+: l := by
  rintro ⟨t, rfl⟩
  exact hx (by simp)
theorem keepB_sub {S T : List Nat} {W W' : World} (h : KeepB S W W') (hT : ∀ x ∈ T, x ∈ S) : KeepB T W W' := fun b hb => h b (hT b hb)
theorem calm_below {w w' : World} (h : Calm w w') (B : Nat) : Below B w w' := ⟨h.os, h.tape, h.output, by rw [h.heap]; exact Nat.le_refl _, fun k _ => by rw [h.heap]⟩
theorem calm_others {w w' : World} (h : Calm w w') : KeepsOthers w w' := ⟨by rw [h.heap]; exact Nat.le_refl _, fun k o hk _ => by rw [h.heap]; exact hk⟩

set_option maxHeartbeats 2000000 in
set_option maxRecDepth 100000 in
theorem goes_in (room : Nat) (A : Option Addr) (c m : Nat) (l : List ByteArray) (w : World) (hr : room ≤ 65536) (ll : l.length ≤ 200) (hm : m ≤ 255) (hl : Reads w A (l.map Value.string)) :
    CallsIn Fence.wide 9 Try.prog 8 #[.int .i64 room, .slice A l.length c, .int .u8 m] w fun e w' => e = .returned (.bool true) ∧ Below w.heap.size w w' := by
  have t1 := le200 ll
  have HL := hid hl
  clear hl
  refine callsIn_of_wp_marks Try.func8 rfl trivial ?_ rfl
  simp only [Try.ntmps8, List.size_toArray, List.length_cons, List.length_nil, Nat.reduceAdd, Nat.reduceSub, Array.replicate_succ, Array.replicate_zero, List.push_toArray, List.append_toArray, List.nil_append, List.cons_append]
  gi_wp2_with fail
  obtain ⟨b5, hb5⟩ : ∃ b5, w.heap.size = b5 := ⟨_, rfl⟩
  obtain ⟨w0, hw0⟩ : ∃ w0, (w.alloc (.cells #[.int .u8 m] 5)).alloc (.cells #[.bool false] 4) = w0 := ⟨_, rfl⟩
  obtain ⟨R, hR⟩ : ∃ R, w0.heap.size = R := ⟨_, rfl⟩
  have z0 : R = b5 + 2 := by rw [← hR, ← hw0, ← hb5]; simp
  have b0 : Below b5 w w0 := by rw [← hw0, ← hb5]; exact (below_new _ _).alloc (by simp) _
  have c5 : w0.cell? ⟨b5, 0, none⟩ = some (.int .u8 m) := by rw [← hw0, ← hb5]; exact cell_past _ (cell_one w _ 5).1
  have hc1 := cell_one (w.alloc (.cells #[.int .u8 m] 5)) (.bool false) 4
  rw [World.size_alloc, hw0, hb5] at hc1
  obtain ⟨c6, f6⟩ := hc1
  rw [hw0, hb5]
  refine ⟨trivial, ?_⟩
  refine (callsIn_wide.2 (new_yes room w0 hr)).mono ?_
  rintro e w1 ⟨rfl, hw1⟩
  have r1 := ring_new R w0 room (by rw [hR]; exact Nat.le_refl _)
  have s1 : w1.heap.size = R + 1 := by rw [hw1, ← hR]; simp
  have bb1 : Below R w0 w1 := by rw [hw1, ← hR]; exact below_new _ _
  rw [← hw1, hR] at r1
  rw [hR]
  clear hw0 hw1
  have Z0 := hid z0
  clear z0
  gi_wp2_with fail
  obtain ⟨w2, hw2⟩ : ∃ w2, w1.alloc (.cells #[.pointer (some ⟨R, 0, none⟩)] 38) = w2 := ⟨_, rfl⟩
  have s2 : w2.heap.size = R + 2 := by rw [← hw2]; simp [s1]
  have bb2 : Below R w0 w2 := by rw [← hw2]; exact below_tr bb1 (by omega) ((below_new w1 _).mono (by omega))
  have r2 := r1.kept (Touch.of_below (below_new w1 (.cells #[.pointer (some ⟨R, 0, none⟩)] 38)) []) (by simp)
  have c7 := (cell_one w1 (.pointer (some ⟨R, 0, none⟩)) 38).1
  rw [hw2] at r2
  rw [hw2, s1] at c7
  rw [hw2]
  clear hw2
  have BB2 := hid bb2
  have R2 := hid r2
  have C7 := hid c7
  have B0 := hid b0
  have C5 := hid c5
  have C6 := hid c6
  have F6 := hid f6
  have S2 := hid s2
  have HB5 := hid hb5
  have HR0 := hid hR
  clear bb1 s1 r1 r2 bb2 b0 c5 c6 f6 s2 hb5 hR c7
  gi_wp2_with fail
  gi_loopw [32] (fun i wr => ∃ k : Nat, k ≤ l.length ∧ i = .int .i64 k ∧ ∃ v, Hid (IsRing 55 9 Value.string R wr R v room (l.take k)) ∧ Hid (Below R w0 wr) ∧ Hid (wr.cell? ⟨R + 1, 0, none⟩ = some (.pointer (some ⟨R, 0, none⟩))) ∧ Hid (R + 1 ∉ feet R v)) (fun i _ => l.length - (intOf i).toNat)
  case atStart => exact ⟨0, Nat.zero_le _, rfl, _, R2, BB2, C7, hid (by simp [feet, Value.ownBlock])⟩
  case round =>
    clear R2 C7 BB2
    obtain ⟨k, hk, rfl, v, HR, HB, H7, HN⟩ := hrel
    have h7 := H7.out
    by_cases hlt : k < l.length
    · obtain ⟨ad, rfl, hc⟩ := ((HL.out.below (HB5.out ▸ B0.out)).below (HR0.out ▸ HB.out)).2 k (by simpa using hlt)
      rw [List.getElem_map] at hc
      obtain ⟨x, hx⟩ : ∃ x, l[k] = x := ⟨_, rfl⟩
      rw [hx] at hc
      have HX := hid hx
      clear hx
      gi_wp2_with fail
      refine ⟨trivial, ?_⟩
      refine (callsIn_wide.2 (put_any HR.out x hr (by simp; omega))).mono ?_
      rintro e w2 ⟨rfl, v1, r1, tt, ff⟩
      have B1 := hid (tt.below HB.out (by rw [← HR0.out]; exact HB.out.size) HR.out.feet_ge)
      have K7 := hid (Touch.cell tt h7 HN.out)
      have N1 : Hid (R + 1 ∉ feet R v1) := hid (by
        intro hmem
        simp only [feet, List.mem_cons, Option.mem_toList] at hmem
        rcases hmem with he | he
        · omega
        · rcases ff with ff | ff
          · exact HN.out (by rw [ff] at he; simp [feet, he])
          · have := ff _ he; have := World.block_lt_of_cell? wr _ h7; simp at this; omega)
      obtain ⟨tv, htv⟩ : ∃ tv, told (Plain.out room (l.take k).length (Plain.ring room (l.take k)) x) = tv := ⟨_, rfl⟩
      rw [htv]
      rw [← HX.out, ← take_snoc hlt] at r1
      have R1 := hid r1
      clear r1 tt ff htv h7
      gi_wp2
      go_roundw
      case rel => exact ⟨k + 1, by omega, by go_num, v1, R1, B1, K7, N1⟩
      case measure => simp [intOf]; omega
    · have hk2 : l.take k = l := List.take_of_length_le (by omega)
      rw [hk2] at HR
      clear hk2
      have h7b := cell_past (.cells #[.int .i64 0] 3) h7
      gi_wp2_with fail
      refine ⟨trivial, ?_⟩
      refine (callsIn_wide.2 (all_any _ _)).mono ?_
      rintro e w3 ⟨rfl, rfl⟩
      clear h7b
      gi_wp2_with fail
      obtain ⟨b10, hb10⟩ : ∃ b, wr.heap.size = b := ⟨_, rfl⟩
      obtain ⟨W3, hW3⟩ : ∃ W, (wr.alloc (.cells #[.int .i64 0] 3)).alloc (.cells #[.pointer (some ⟨R, 0, none⟩)] 38) = W := ⟨_, rfl⟩
      have z3 : W3.heap.size = b10 + 2 := by rw [← hW3, ← hb10]; simp
      have hz0 := Z0.out
      have hR10 : R + 1 < b10 := by rw [← hb10]; exact World.block_lt_of_cell? wr _ h7
      have b3 : Below wr.heap.size wr W3 := by rw [← hW3]; exact (below_new _ _).alloc (by simp) _
      have bW : Below R w0 W3 := below_tr HB.out (by omega) b3
      have bw : Below b5 w W3 := below_tr B0.out (by rw [HR0.out]; omega) (HR0.out.symm ▸ bW)
      have k10 : W3.cell? ⟨b10, 0, none⟩ = some (.int .i64 0) := by rw [← hW3, ← hb10]; exact cell_past _ (cell_one wr _ 3).1
      have g10 : W3.frozen? ⟨b10, 0, none⟩ = false := by rw [← hW3, ← hb10]; exact frozen_past _ (cell_one wr _ 3).1 (cell_one wr _ 3).2
      have k11 : W3.cell? ⟨b10 + 1, 0, none⟩ = some (.pointer (some ⟨R, 0, none⟩)) := by
        have := (cell_one (wr.alloc (.cells #[.int .i64 0] 3)) (.pointer (some ⟨R, 0, none⟩)) 38).1
        rw [World.size_alloc, hb10, hW3] at this
        exact this
      have r3 := HR.out.kept (Touch.of_below b3 []) (by simp)
      have d7 : W3.cell? ⟨R + 1, 0, none⟩ = some (.pointer (some ⟨R, 0, none⟩)) := cell_below b3 h7
      have d5 : W3.cell? ⟨b5, 0, none⟩ = some (.int .u8 m) := cell_below (HR0.out.symm ▸ bW) C5.out
      have d6 : W3.cell? ⟨b5 + 1, 0, none⟩ = some (.bool false) := cell_below (HR0.out.symm ▸ bW) C6.out
      have f6 : W3.frozen? ⟨b5 + 1, 0, none⟩ = false := (bW.frozen (p := ⟨b5 + 1, 0, none⟩) (by show b5 + 1 < R; omega)).trans F6.out
      have ft : ∀ x ∈ b5 :: (R + 1) :: (b10 + 1) :: feet R v, x < W3.heap.size := by
        intro x hx
        simp only [List.mem_cons] at hx
        rcases hx with rfl | rfl | rfl | hx
        · omega
        · omega
        · omega
        · exact r3.feet_lt x hx
      have hbf : b10 ∉ b5 :: (R + 1) :: (b10 + 1) :: feet R v := by
        intro hx
        simp only [List.mem_cons] at hx
        rcases hx with hx | hx | hx | hx
        · omega
        · omega
        · omega
        · have := HR.out.feet_lt b10 hx; omega
      have h6f : b5 + 1 ∉ b5 :: (R + 1) :: (b10 + 1) :: feet R v := by
        intro hx
        simp only [List.mem_cons] at hx
        rcases hx with hx | hx | hx | hx
        · omega
        · omega
        · omega
        · have := HR.out.feet_ge _ hx; omega
      rw [hW3, hb10]
      have seq := all1_stops 8 (by decide) r3 (b10 + 1) k11 hr (by omega)
      obtain ⟨S, hS⟩ : ∃ S, b5 :: (R + 1) :: (b10 + 1) :: feet R v = S := ⟨_, rfl⟩
      have sub1 : ∀ x ∈ (b10 + 1) :: feet R v, x ∈ S := by intro x hx; rw [← hS]; simp only [List.mem_cons] at hx ⊢; exact .inr (.inr hx)
      have s5 : b5 ∈ S := by rw [← hS]; simp
      have s7 : R + 1 ∈ S := by rw [← hS]; simp
      rw [hS] at ft hbf h6f
      obtain ⟨nw, hnw⟩ : ∃ nw, news room l = nw := ⟨_, rfl⟩
      obtain ⟨N, hN⟩ : ∃ N, min l.length room = N := ⟨_, rfl⟩
      have hnl : nw.length = N := by rw [← hnw, ← hN]; exact news_length room l
      rw [hnw, hN] at seq
      have SEQ := hid seq
      have R3 := hid r3
      have BW := hid bw
      have D7 := hid d7
      have D5 := hid d5
      have Z3 := hid z3
      have HNW := hid hnw
      have HNN := hid hN
      have HNL := hid hnl
      clear seq r3 hW3 b3 bW hS h7 bw k11 d7 d5 hz0 hnw hN hnl
      have hG : ∀ {B : Nat}, W3.heap.size ≤ B → OwnFrom B (fun (pre : List (Int × ByteArray)) (W : World) => ((pre <+: nw ∧ W.cell? ⟨b10, 0, none⟩ = some (.int .i64 (pre.length : Int)) ∧ W.frozen? ⟨b10, 0, none⟩ = false ∧ W.cell? ⟨b5 + 1, 0, none⟩ = some (.bool false) ∧ W.frozen? ⟨b5 + 1, 0, none⟩ = false) ∧ Below b5 w W) ∧ KeepB S W3 W) := fun {B} hB =>
        OwnFrom.and (OwnFrom.and (Own.from (fun s A B row hs hg hr => ⟨hs.1, cell_kept hs.2.1 hg hr, (frozen_kept hs.2.1 hg hr).trans hs.2.2.1, cell_kept hs.2.2.2.1 hg hr, (frozen_kept hs.2.2.2.1 hg hr).trans hs.2.2.2.2⟩) _) (ownFrom_below (by rw [HB5.out]; exact Nat.le_refl _) (by have := Z3.out; have := Z0.out; omega))) (ownFrom_keepB ft hB)
      refine rangeFunc_F rfl (by decide) (gf := 29) (lb := #[.pointer (some ⟨b10 + 1, 0, none⟩)]) rfl trivial (enters_of Try.func29 (by kernel_rfl) rfl) SEQ.out (fun h k => h.trans k) (keepB_b (fun x hx => ft x (sub1 x hx))) (Below.refl _ _) (fun _ => rfl)
        (fun pre W => pre.length ≤ m ∧ ((pre <+: nw ∧ W.cell? ⟨b10, 0, none⟩ = some (.int .i64 (pre.length : Int)) ∧ W.frozen? ⟨b10, 0, none⟩ = false ∧ W.cell? ⟨b5 + 1, 0, none⟩ = some (.bool false) ∧ W.frozen? ⟨b5 + 1, 0, none⟩ = false) ∧ Below b5 w W) ∧ KeepB S W3 W)
        (fun c pre W => (¬ pre <+: nw) ∨ ((c = .exit 2 ∧ pre.length = m + 1) ∧ ((pre <+: nw ∧ W.cell? ⟨b10, 0, none⟩ = some (.int .i64 (pre.length : Int)) ∧ W.frozen? ⟨b10, 0, none⟩ = false ∧ W.cell? ⟨b5 + 1, 0, none⟩ = some (.bool false) ∧ W.frozen? ⟨b5 + 1, 0, none⟩ = false) ∧ Below b5 w W) ∧ KeepB S W3 W))
        (OwnFrom.and (ownFrom_pure _ (fun pre : List (Int × ByteArray) => pre.length ≤ m)) (hG (Nat.le_refl _)))
        (fun c => ownFrom_or (ownFrom_pure _ (fun pre : List (Int × ByteArray) => ¬ pre <+: nw)) (OwnFrom.and (ownFrom_pure _ (fun pre : List (Int × ByteArray) => c = .exit 2 ∧ pre.length = m + 1)) (hG (Nat.le_refl _))))
        ⟨Nat.zero_le _, ⟨⟨List.nil_prefix, k10, g10, d6, f6⟩, BW.out⟩, KeepB.refl _ _⟩
        [(11, fun x : Int × ByteArray => .int .i64 x.1), (12, fun x : Int × ByteArray => .string x.2)] ?assign ?body ?done ?stop
      case assign =>
        intro ly x W K hK
        generalize hls : leftSides _ _ _ _ _ = a1 at hK
        simp [leftSides] at hls
        subst hls
        gi_wp2
        exact hK
      case body =>
        rintro ly pre ⟨x1, x2⟩ W ⟨hpm, ⟨⟨hp, hck, hfk, hcr, hfr⟩, hB⟩, hKp⟩ hN
        have h7 : W.cell? ⟨R + 1, 0, none⟩ = some (.pointer (some ⟨R, 0, none⟩)) := (KeepB.cell (p := ⟨R + 1, 0, none⟩) hKp s7).trans D7.out
        have h5 : W.cell? ⟨b5, 0, none⟩ = some (.int .u8 m) := (KeepB.cell (p := ⟨b5, 0, none⟩) hKp s5).trans D5.out
        have RW := hid (R3.out.keepB hKp (fun y hy => sub1 y (List.mem_cons_of_mem _ hy)))
        have HP := hid hp
        have HB2 := hid hB
        have KP := hid hKp
        clear hp hB hKp
        have hpl : pre.length < (news room l).length := by rw [HNW.out, HNL.out]; exact hN
        obtain ⟨y, hy⟩ : ∃ y, (news room l)[pre.length] = y := ⟨_, rfl⟩
        have hag := news_at room l pre.length hpl
        have hf1 := news_fst room l pre.length hpl
        rw [hy] at hag hf1
        have HY : Hid (nw[pre.length]'(by rw [HNL.out]; exact hN) = y) := hid (by simp only [← HNW.out]; exact hy)
        have HF1 := hid hf1
        have HAG := hid hag
        clear hy hag hf1 hpl
        generalize hls : leftSides _ _ _ _ _ = a1
        simp [leftSides] at hls
        subst hls
        obtain ⟨n0, hn0⟩ : ∃ n0, pre.length = n0 := ⟨_, rfl⟩
        have hn0b : n0 ≤ 1000000 := by omega
        rw [hn0] at hck HAG HF1
        have HN0 := hid hn0
        clear hn0
        gi_wp2_with fail
        refine ⟨trivial, ?_⟩
        refine (CallsIn.inRound ly (callsIn_wide.2 (at_any RW.out _ hr (by omega)))).mono ?_
        rintro e w2 ⟨rfl, md, hmd⟩
        have h2 := Calm.of_drewN W md
        rw [← hmd] at h2
        clear hmd
        rw [HAG.out, show told (some y.2) = .tuple #[.string y.2, .bool true] from rfl]
        have hck2 := (h2.cell ⟨b10, 0, none⟩).trans hck
        have hfk2 := (h2.frozen ⟨b10, 0, none⟩).trans hfk
        have hcr2 := (h2.cell ⟨b5 + 1, 0, none⟩).trans hcr
        have hfr2 := (h2.frozen ⟨b5 + 1, 0, none⟩).trans hfr
        have h52 := (h2.cell ⟨b5, 0, none⟩).trans h5
        have KP2 := hid (KP.out.trans (KeepB.calm (S := S) h2))
        have BB := hid (HB2.out.trans (calm_below h2 b5))
        have KO := hid (calm_others h2)
        have H2 := hid h2
        obtain ⟨yb, hyb⟩ : ∃ yb, y.2 = yb := ⟨_, rfl⟩
        rw [hyb]
        have HYB := hid hyb
        clear h2 hck hfk hcr hfr h5 h7 hyb
        have hz0 := Z0.out
        have hb6 : b5 + 1 ≠ b10 := by omega
        have hne10 : b10 ≠ b5 := by omega
        have hb7 : b5 ≤ b10 := by omega
        clear hz0
        by_cases e1 : x1 = (n0 : Int)
        · have q1 : (x1 != (n0 : Int)) = false := by simp [e1]
          have q1' : (x1 == (n0 : Int)) = true := by simp [e1]
          by_cases e2 : x2 = yb
          · have HXY := hid (HYB.out.trans e2.symm)
            clear HYB
            subst e2
            have E1 := hid e1
            clear e1
            have h53 : (w2.setCell ⟨b10, 0, none⟩ (.int .i64 ((n0 : Int) + 1))).cell? ⟨b5, 0, none⟩ = some (.int .u8 m) := by rw [World.cell?_setCell_far _ _ _ _ (by show b10 ≠ b5; exact hne10)]; exact h52
            by_cases e3 : n0 + 1 ≤ m
            · have q3 : decide ((m : Int) < (n0 : Int) + 1) = false := by simp; omega
              gi_wp2
              refine ⟨KO.out.trans (KeepsOthers.setCell _ _ _), keepB_sub (KeepB.trans (KeepB.calm H2.out) (KeepB.setCell w2 ⟨b10, 0, none⟩ (.int .i64 ((n0 : Int) + 1)) hbf)) sub1, ?_⟩
              exact ⟨by have := HN0.out; simp; omega, ⟨⟨⟨prefix_snoc' HP.out (by rw [HNL.out]; exact hN) (by rw [HY.out]; exact Prod.ext (HF1.out.trans E1.out.symm) HXY.out), by rw [World.cell?_setCell_same' _ _ _ (by rw [hck2]; rfl)]; simp [HN0.out], by rw [World.frozen?_setCell]; exact hfk2,
                by rw [World.cell?_setCell_far _ _ _ _ (by show b10 ≠ b5 + 1; exact fun e => hb6 e.symm)]; exact hcr2, by rw [World.frozen?_setCell]; exact hfr2⟩, BB.out.setCell (p := ⟨b10, 0, none⟩) (by show b5 ≤ b10; exact hb7) _⟩, KP2.out.trans (KeepB.setCell w2 ⟨b10, 0, none⟩ _ hbf)⟩⟩
            · have q3 : decide ((m : Int) < (n0 : Int) + 1) = true := by simp; omega
              gi_wp2
              refine ⟨KO.out.trans (KeepsOthers.setCell _ _ _), .inr ⟨⟨rfl, by have := HN0.out; simp; omega⟩, ?_⟩⟩
              exact ⟨⟨⟨prefix_snoc' HP.out (by rw [HNL.out]; exact hN) (by rw [HY.out]; exact Prod.ext (HF1.out.trans E1.out.symm) HXY.out), by rw [World.cell?_setCell_same' _ _ _ (by rw [hck2]; rfl)]; simp [HN0.out], by rw [World.frozen?_setCell]; exact hfk2,
                by rw [World.cell?_setCell_far _ _ _ _ (by show b10 ≠ b5 + 1; exact fun e => hb6 e.symm)]; exact hcr2, by rw [World.frozen?_setCell]; exact hfr2⟩, BB.out.setCell (p := ⟨b10, 0, none⟩) (by show b5 ≤ b10; exact hb7) _⟩, KP2.out.trans (KeepB.setCell w2 ⟨b10, 0, none⟩ _ hbf)⟩
          · have q2 := bytes_other e2
            gi_wp2
            refine ⟨KO.out.trans (KeepsOthers.setCell _ _ _), .inl (not_snoc' (by rw [HNL.out]; exact hN) ?_)⟩
            rw [HY.out]
            intro e
            rw [e] at HYB
            exact e2 HYB.out
        · have q1 : (x1 != (n0 : Int)) = true := by simp [e1]
          have q1' : (x1 == (n0 : Int)) = false := by simp [e1]
          gi_wp2
          refine ⟨KO.out.trans (KeepsOthers.setCell _ _ _), .inl (not_snoc' (by rw [HNL.out]; exact hN) ?_)⟩
          rw [HY.out]
          intro e
          rw [e] at HF1
          exact e1 HF1.out
      case' done =>
        rintro D pre W hD hpre ⟨hpm, ⟨⟨hp, hck, hfk, hcr, hfr⟩, hB⟩, hKp⟩ hK
        have hkk : pre.length = min N (m + 1) := by rw [hpre] at hpm ⊢; have := HNL.out; omega
      case' stop =>
        rintro D cx pre W hD hpre hx hK
        rcases hx with hx | ⟨⟨rfl, hpm⟩, ⟨⟨hp, hck, hfk, hcr, hfr⟩, hB⟩, hKp⟩
        · exact absurd hpre hx
        have hkk : pre.length = min N (m + 1) := by have := hp.length_le; have := HNL.out; omega
      all_goals
        rw [hkk] at hck
        obtain ⟨kk, hkk2⟩ : ∃ kk, min N (m + 1) = kk := ⟨_, rfl⟩
        rw [hkk2] at hck
        have HKK := hid hkk2
        have h7 : W.cell? ⟨R + 1, 0, none⟩ = some (.pointer (some ⟨R, 0, none⟩)) := (KeepB.cell (p := ⟨R + 1, 0, none⟩) hKp s7).trans D7.out
        have h5 := hid ((KeepB.cell (p := ⟨b5, 0, none⟩) hKp s5).trans D5.out)
        have RW := hid (R3.out.keepB hKp (fun y hy => sub1 y (List.mem_cons_of_mem _ hy)))
        have HB2 := hid hB
        have HCK := hid hck
        have HCR := hid hcr
        have HFR := hid hfr
        have HK := hid hK
        have HD := hid hD
        clear hp hpre hpm hkk hkk2 hKp hK hB hck hfk hcr hfr hD
        have h7b := cell_past (.cells #[.int .i64 0] 3) h7
        gi_wp2_with fail
        refine ⟨trivial, ?_⟩
        refine (callsIn_wide.2 (old_any _ _)).mono ?_
        rintro e w4 ⟨rfl, rfl⟩
        clear h7b
        gi_wp2_with fail
        have HDW := lt_of_some HK.out
        obtain ⟨b15, hb15⟩ : ∃ b, W.heap.size = b := ⟨_, rfl⟩
        obtain ⟨W5, hW5⟩ : ∃ X, (W.alloc (.cells #[.int .i64 0] 3)).alloc (.cells #[.pointer (some ⟨R, 0, none⟩)] 38) = X := ⟨_, rfl⟩
        have z5 : W5.heap.size = b15 + 2 := by rw [← hW5, ← hb15]; simp
        have hz0 := Z0.out
        have hz3 := Z3.out
        have hD0 := HD.out
        have hb10 : b10 + 2 ≤ b15 := by omega
        have e5 : Below W.heap.size W W5 := by rw [← hW5]; exact (below_new _ _).alloc (by simp) _
        have ew : Below b5 w W5 := below_tr HB2.out (by omega) e5
        have k15 : W5.cell? ⟨b15, 0, none⟩ = some (.int .i64 0) := by rw [← hW5, ← hb15]; exact cell_past _ (cell_one W _ 3).1
        have g15 : W5.frozen? ⟨b15, 0, none⟩ = false := by rw [← hW5, ← hb15]; exact frozen_past _ (cell_one W _ 3).1 (cell_one W _ 3).2
        have k16 : W5.cell? ⟨b15 + 1, 0, none⟩ = some (.pointer (some ⟨R, 0, none⟩)) := by
          have := (cell_one (W.alloc (.cells #[.int .i64 0] 3)) (.pointer (some ⟨R, 0, none⟩)) 38).1
          rw [World.size_alloc, hb15, hW5] at this
          exact this
        have r5 := RW.out.kept (Touch.of_below e5 []) (by simp)
        have j7 : W5.cell? ⟨R + 1, 0, none⟩ = some (.pointer (some ⟨R, 0, none⟩)) := cell_below e5 h7
        have j5 : W5.cell? ⟨b5, 0, none⟩ = some (.int .u8 m) := cell_below e5 h5.out
        have j6 : W5.cell? ⟨b5 + 1, 0, none⟩ = some (.bool false) := cell_below e5 HCR.out
        have jf6 : W5.frozen? ⟨b5 + 1, 0, none⟩ = false := (e5.frozen (p := ⟨b5 + 1, 0, none⟩) (World.block_lt_of_cell? W _ HCR.out)).trans HFR.out
        have j10 : W5.cell? ⟨b10, 0, none⟩ = some (.int .i64 kk) := cell_below e5 HCK.out
        have jD : W5.heap[D]? = some (.deferred (some [])) := (e5.block D HDW).trans HK.out
        have ft2 : ∀ x ∈ b5 :: (R + 1) :: b10 :: (b15 + 1) :: feet R v, x < W5.heap.size := by
          intro x hx
          simp only [List.mem_cons] at hx
          rcases hx with rfl | rfl | rfl | rfl | hx
          · omega
          · omega
          · omega
          · omega
          · exact r5.feet_lt x hx
        have hbf2 : b15 ∉ b5 :: (R + 1) :: b10 :: (b15 + 1) :: feet R v := by
          intro hx
          simp only [List.mem_cons] at hx
          rcases hx with hx | hx | hx | hx | hx
          · omega
          · omega
          · omega
          · omega
          · have := RW.out.feet_lt b15 hx; omega
        rw [hW5, hb15]
        have seq2 := old1_stops 8 (by decide) r5 (b15 + 1) k16 hr (by omega)
        obtain ⟨S2', hS2⟩ : ∃ S, b5 :: (R + 1) :: b10 :: (b15 + 1) :: feet R v = S := ⟨_, rfl⟩
        have sub2 : ∀ x ∈ (b15 + 1) :: feet R v, x ∈ S2' := by intro x hx; rw [← hS2]; simp only [List.mem_cons] at hx ⊢; exact .inr (.inr (.inr hx))
        have u5 : b5 ∈ S2' := by rw [← hS2]; simp
        have u7 : R + 1 ∈ S2' := by rw [← hS2]; simp
        have u10 : b10 ∈ S2' := by rw [← hS2]; simp
        rw [hS2] at ft2 hbf2
        obtain ⟨od, hod⟩ : ∃ od, olds room l = od := ⟨_, rfl⟩
        have hol : od.length = N := by rw [← hod, ← HNN.out]; exact olds_length room l
        rw [hod, HNN.out] at seq2
        have SEQ2 := hid seq2
        have R5 := hid r5
        have EW := hid ew
        have J7 := hid j7
        have J5 := hid j5
        have J10 := hid j10
        have JD := hid jD
        have Z5 := hid z5
        have HOD := hid hod
        have HOL := hid hol
        have hdb : D < b15 := by omega
        have hb56 : b5 + 1 < b15 := by omega
        clear seq2 r5 hW5 e5 hS2 ew k16 j7 j5 j10 jD hz0 hz3 hod hol h7 HCK HFR HCR HB2 h5 z5 hD0
        have hG2 : OwnFrom W5.heap.size (fun (pre : List ByteArray) (W : World) => ((pre <+: od ∧ W.cell? ⟨b15, 0, none⟩ = some (.int .i64 (pre.length : Int)) ∧ W.frozen? ⟨b15, 0, none⟩ = false ∧ W.cell? ⟨b5 + 1, 0, none⟩ = some (.bool false) ∧ W.frozen? ⟨b5 + 1, 0, none⟩ = false) ∧ Below b5 w W ∧ W.heap[D]? = some (.deferred (some []))) ∧ KeepB S2' W5 W) :=
          OwnFrom.and (OwnFrom.and (Own.from (fun s A B row hs hg hr => ⟨hs.1, cell_kept hs.2.1 hg hr, (frozen_kept hs.2.1 hg hr).trans hs.2.2.1, cell_kept hs.2.2.2.1 hg hr, (frozen_kept hs.2.2.2.1 hg hr).trans hs.2.2.2.2⟩) _) (OwnFrom.and (ownFrom_below (by rw [HB5.out]; exact Nat.le_refl _) (by have := Z5.out; omega)) (ownFrom_def (by have := Z5.out; omega)))) (ownFrom_keepB ft2 (Nat.le_refl _))
        refine rangeFunc_F rfl (by decide) (gf := 30) (lb := #[.pointer (some ⟨b15 + 1, 0, none⟩)]) rfl trivial (enters_of Try.func30 (by kernel_rfl) rfl) SEQ2.out (fun h k => h.trans k) (keepB_b (fun x hx => ft2 x (sub2 x hx))) (Below.refl _ _) (fun _ => rfl)
          (fun pre W => pre.length ≤ m ∧ ((pre <+: od ∧ W.cell? ⟨b15, 0, none⟩ = some (.int .i64 (pre.length : Int)) ∧ W.frozen? ⟨b15, 0, none⟩ = false ∧ W.cell? ⟨b5 + 1, 0, none⟩ = some (.bool false) ∧ W.frozen? ⟨b5 + 1, 0, none⟩ = false) ∧ Below b5 w W ∧ W.heap[D]? = some (.deferred (some []))) ∧ KeepB S2' W5 W)
          (fun c pre W => (¬ pre <+: od) ∨ ((c = .exit 4 ∧ pre.length = m + 1) ∧ ((pre <+: od ∧ W.cell? ⟨b15, 0, none⟩ = some (.int .i64 (pre.length : Int)) ∧ W.frozen? ⟨b15, 0, none⟩ = false ∧ W.cell? ⟨b5 + 1, 0, none⟩ = some (.bool false) ∧ W.frozen? ⟨b5 + 1, 0, none⟩ = false) ∧ Below b5 w W ∧ W.heap[D]? = some (.deferred (some []))) ∧ KeepB S2' W5 W))
          (OwnFrom.and (ownFrom_pure _ (fun pre : List ByteArray => pre.length ≤ m)) hG2)
          (fun c => ownFrom_or (ownFrom_pure _ (fun pre : List ByteArray => ¬ pre <+: od)) (OwnFrom.and (ownFrom_pure _ (fun pre : List ByteArray => c = .exit 4 ∧ pre.length = m + 1)) hG2))
          ⟨Nat.zero_le _, ⟨⟨List.nil_prefix, k15, g15, j6, jf6⟩, EW.out, JD.out⟩, KeepB.refl _ _⟩
          [(16, fun x : ByteArray => .string x)] ?_ ?_ ?_ ?_
        · intro ly x W K hK
          generalize hls : leftSides _ _ _ _ _ = a1 at hK
          simp [leftSides] at hls
          subst hls
          gi_wp2
          exact hK
        · rintro ly pre x W ⟨hpm, ⟨⟨hp, hck, hfk, hcr, hfr⟩, hB, hKD⟩, hKp⟩ hN
          have hpl : pre.length < (olds room l).length := by rw [HOD.out, HOL.out]; exact hN
          have hag := olds_at room l pre.length hpl
          rw [HNN.out] at hag
          have HY : Hid (od[pre.length]'(by rw [HOL.out]; exact hN) = (olds room l)[pre.length]) := hid (by simp only [HOD.out])
          obtain ⟨y, hy⟩ : ∃ y, (olds room l)[pre.length] = y := ⟨_, rfl⟩
          rw [hy] at hag HY
          have h7 : W.cell? ⟨R + 1, 0, none⟩ = some (.pointer (some ⟨R, 0, none⟩)) := (KeepB.cell (p := ⟨R + 1, 0, none⟩) hKp u7).trans J7.out
          have h5 := hid ((KeepB.cell (p := ⟨b5, 0, none⟩) hKp u5).trans J5.out)
          have RD := hid (R5.out.keepB hKp (fun y hy => sub2 y (List.mem_cons_of_mem _ hy)))
          have HP := hid hp
          have HB2 := hid hB
          have KP := hid hKp
          have KD := hid hKD
          have HFK := hid hfk
          have HCR := hid hcr
          have HFR := hid hfr
          have HAG := hid hag
          clear hp hB hKp hKD hfk hcr hfr hag hy hpl
          generalize hls : leftSides _ _ _ _ _ = a1
          simp [leftSides] at hls
          subst hls
          obtain ⟨n0, hn0⟩ : ∃ n0, pre.length = n0 := ⟨_, rfl⟩
          have hn0b : n0 ≤ 1000000 := by omega
          have hNb : N ≤ 1000000 := by have := HNN.out; omega
          rw [hn0] at hck HAG
          have HN0 := hid hn0
          have w1 : IntKind.i64.wrap ((N : Int) - 1) = (N : Int) - 1 := IntWalk.i64_in _ (by omega)
          have w2 : IntKind.i64.wrap ((N : Int) - 1 - (n0 : Int)) = (N : Int) - 1 - (n0 : Int) := IntWalk.i64_in _ (by omega)
          have HLEN : ∀ k, CallsIn (Fence.wide.inRound ly) 6 Try.prog 25 #[.pointer (some ⟨R, 0, none⟩)] (W.drewN k) fun e w' => e = .returned (.int .i64 N) ∧ ∃ m, w' = W.drewN m := fun k => by
            have h := len_any (RD.out.calm (Calm.of_drewN W k))
            rw [HNN.out] at h
            exact (CallsIn.inRound ly (callsIn_wide.2 h)).mono fun e w' q => ⟨q.1, k, q.2.symm⟩
          have HAT : ∀ k, CallsIn (Fence.wide.inRound ly) 6 Try.prog 23 #[.pointer (some ⟨R, 0, none⟩), .int .i64 ((N : Int) - 1 - (n0 : Int))] (W.drewN k) fun e w' => e = .returned (.tuple #[.string y, .bool true]) ∧ ∃ m, w' = W.drewN m := fun k => by
            have h := at_any (RD.out.calm (Calm.of_drewN W k)) ((N : Int) - 1 - (n0 : Int)) hr (by omega)
            unfold AtPost at h
            rw [HAG.out] at h
            exact (CallsIn.inRound ly (callsIn_wide.2 h)).mono fun e w' q => ⟨q.1, by obtain ⟨md, hmd⟩ := q.2; exact ⟨k + md, by rw [hmd, World.drewN_drewN]⟩⟩
          have HLEN' := hid HLEN
          have HAT' := hid HAT
          clear hn0 HLEN HAT
          gi_wp2_with fail
          refine region_round (by kernel_rfl) (by kernel_rfl) (by kernel_rfl) ?_
          repeat (first
            | gi_big_quiet_step (first | exact HLEN'.out _ | exact HAT'.out _)
            | (refine BigFrame.wpQuietIn_want (fun _ _ _ _ => trivial) rfl ?_
               intro _ _
               gi_big_quiet_op
               gi_big_quiet_call (first | exact HLEN'.out _ | exact HAT'.out _)))
          refine wpQuietIn_nil ?_
          intro _ hw'
          obtain ⟨nq, hw''⟩ := hw'
          subst hw''
          have h2 := Calm.of_drewN W nq
          have hck2 := (h2.cell ⟨b15, 0, none⟩).trans hck
          have hfk2 := (h2.frozen ⟨b15, 0, none⟩).trans HFK.out
          have hcr2 := (h2.cell ⟨b5 + 1, 0, none⟩).trans HCR.out
          have hfr2 := (h2.frozen ⟨b5 + 1, 0, none⟩).trans HFR.out
          have h52 := (h2.cell ⟨b5, 0, none⟩).trans h5.out
          have KP2 := hid (KP.out.trans (KeepB.calm (S := S2') h2))
          have BB := hid (HB2.out.trans (calm_below h2 b5))
          have KO := hid (calm_others h2)
          have KD2 := hid ((calm_others h2).same D _ KD.out rfl)
          have H2 := hid h2
          obtain ⟨w2, hw2⟩ : ∃ w2, W.drewN nq = w2 := ⟨_, rfl⟩
          rw [hw2] at hck2 hfk2 hcr2 hfr2 h52 KP2 BB KO KD2 H2 ⊢
          clear h2 hck hw2 h7
          have hne15 : b15 ≠ b5 := by omega
          by_cases e2 : x = y
          · subst e2
            have h53 : (w2.setCell ⟨b15, 0, none⟩ (.int .i64 ((n0 : Int) + 1))).cell? ⟨b5, 0, none⟩ = some (.int .u8 m) := by rw [World.cell?_setCell_far _ _ _ _ (by show b15 ≠ b5; exact hne15)]; exact h52
            by_cases e3 : n0 + 1 ≤ m
            · have q3 : decide ((m : Int) < (n0 : Int) + 1) = false := by simp; omega
              gi_wp2
              refine ⟨KO.out.trans (KeepsOthers.setCell _ _ _), keepB_sub (KeepB.trans (KeepB.calm H2.out) (KeepB.setCell w2 ⟨b15, 0, none⟩ (.int .i64 ((n0 : Int) + 1)) hbf2)) sub2, ?_⟩
              exact ⟨by have := HN0.out; simp; omega, ⟨⟨⟨prefix_snoc' HP.out (by rw [HOL.out]; exact hN) HY.out, by rw [World.cell?_setCell_same' _ _ _ (by rw [hck2]; rfl)]; simp [HN0.out], by rw [World.frozen?_setCell]; exact hfk2,
                by rw [World.cell?_setCell_far _ _ _ _ (by show b15 ≠ b5 + 1; omega)]; exact hcr2, by rw [World.frozen?_setCell]; exact hfr2⟩, BB.out.setCell (p := ⟨b15, 0, none⟩) (by show b5 ≤ b15; omega) _,
                (KeepsOthers.setCell _ _ _).same D _ KD2.out rfl⟩, KP2.out.trans (KeepB.setCell w2 ⟨b15, 0, none⟩ _ hbf2)⟩⟩
            · have q3 : decide ((m : Int) < (n0 : Int) + 1) = true := by simp; omega
              gi_wp2
              refine ⟨KO.out.trans (KeepsOthers.setCell _ _ _), .inr ⟨⟨rfl, by have := HN0.out; simp; omega⟩, ?_⟩⟩
              exact ⟨⟨⟨prefix_snoc' HP.out (by rw [HOL.out]; exact hN) HY.out, by rw [World.cell?_setCell_same' _ _ _ (by rw [hck2]; rfl)]; simp [HN0.out], by rw [World.frozen?_setCell]; exact hfk2,
                by rw [World.cell?_setCell_far _ _ _ _ (by show b15 ≠ b5 + 1; omega)]; exact hcr2, by rw [World.frozen?_setCell]; exact hfr2⟩, BB.out.setCell (p := ⟨b15, 0, none⟩) (by show b5 ≤ b15; omega) _,
                (KeepsOthers.setCell _ _ _).same D _ KD2.out rfl⟩, KP2.out.trans (KeepB.setCell w2 ⟨b15, 0, none⟩ _ hbf2)⟩
          · have q2 := bytes_other e2
            gi_wp2
            refine ⟨KO.out.trans (KeepsOthers.setCell _ _ _), .inl (not_snoc' (by rw [HOL.out]; exact hN) ?_)⟩
            rw [HY.out]
            exact fun e => e2 e.symm
        all_goals first
          | (rintro D2 pre W6 hD2 hpre ⟨hpm, ⟨⟨hp, hck, hfk, hcr, hfr⟩, hB, hKD⟩, hKp⟩ hK2
             have hkk2 : pre.length = min N (m + 1) := by rw [hpre] at hpm ⊢; have := HOL.out; omega)
          | (rintro D2 cx pre W6 hD2 hpre hx hK2
             rcases hx with hx | ⟨⟨rfl, hpm⟩, ⟨⟨hp, hck, hfk, hcr, hfr⟩, hB, hKD⟩, hKp⟩
             · exact absurd hpre hx
             have hkk2 : pre.length = min N (m + 1) := by have := hp.length_le; have := HOL.out; omega)
        all_goals
          rw [hkk2, HKK.out] at hck
          have h7 : W6.cell? ⟨R + 1, 0, none⟩ = some (.pointer (some ⟨R, 0, none⟩)) := (KeepB.cell (p := ⟨R + 1, 0, none⟩) hKp u7).trans J7.out
          have h5 : W6.cell? ⟨b5, 0, none⟩ = some (.int .u8 m) := (KeepB.cell (p := ⟨b5, 0, none⟩) hKp u5).trans J5.out
          have h10 : W6.cell? ⟨b10, 0, none⟩ = some (.int .i64 kk) := (KeepB.cell (p := ⟨b10, 0, none⟩) hKp u10).trans J10.out
          have RD := hid (R5.out.keepB hKp (fun y hy => sub2 y (List.mem_cons_of_mem _ hy)))
          have HB2 := hid hB
          have HCK := hid hck
          have HCR := hid hcr
          have HFR := hid hfr
          have HKD := hid hKD
          have HK2 := hid hK2
          have HD2 := hid hD2
          have HNE : Hid (D ≠ D2) := hid (by have := Z5.out; omega)
          clear hp hpre hpm hkk2 hKp hK2 hB hck hfk hcr hfr hD2 hKD
          have HLEN : ∀ k, CallsIn Fence.wide 8 Try.prog 25 #[.pointer (some ⟨R, 0, none⟩)] (W6.drewN k) fun e w' => e = .returned (.int .i64 N) ∧ ∃ m, w' = W6.drewN m := fun k => by
            have h := len_any (RD.out.calm (Calm.of_drewN W6 k))
            rw [HNN.out] at h
            exact (callsIn_wide.2 h).mono fun e w' q => ⟨q.1, k, q.2.symm⟩
          have HLEN' := hid HLEN
          clear HLEN
          gi_wp2_with fail
          refine region_round (by kernel_rfl) (by kernel_rfl) (by kernel_rfl) ?_
          repeat (first
            | gi_big_quiet_step (first | exact HLEN'.out _)
            | (refine BigFrame.wpQuietIn_want (fun _ _ _ _ => trivial) rfl ?_
               intro _ _
               gi_big_quiet_op
               gi_big_quiet_call (first | exact HLEN'.out _)))
          refine wpQuietIn_nil ?_
          intro _ hw'
          obtain ⟨nq, hw''⟩ := hw'
          subst hw''
          have hmin : (if (m : Int) + 1 < (N : Int) then (m : Int) + 1 else (N : Int)) = (kk : Int) := by have := HKK.out; split <;> omega
          rw [hmin]
          clear hmin
          have h2 := Calm.of_drewN W6 nq
          have hck2 := (h2.cell ⟨b15, 0, none⟩).trans HCK.out
          have h102 := (h2.cell ⟨b10, 0, none⟩).trans h10
          have hcr2 := hid ((h2.cell ⟨b5 + 1, 0, none⟩).trans HCR.out)
          have hfr2 := hid ((h2.frozen ⟨b5 + 1, 0, none⟩).trans HFR.out)
          have BB := hid (HB2.out.trans (calm_below h2 b5))
          have KD := hid ((calm_others h2).same D _ HKD.out rfl)
          have KD2 := hid ((calm_others h2).same D2 _ HK2.out rfl)
          obtain ⟨w7, hw7⟩ : ∃ w2, W6.drewN nq = w2 := ⟨_, rfl⟩
          rw [hw7] at hck2 h102 hcr2 hfr2 BB KD KD2 ⊢
          clear h2 hw7 h7 h5 h10
          gi_wp2_with fail
          refine ⟨trivial, ?_⟩
          refine (callsIn_wide.2 (awake_any w7)).mono ?_
          rintro e W4 ⟨rfl, b4⟩
          have B4 := hid b4
          have hcr4 := (b4.cell (p := ⟨b5 + 1, 0, none⟩) (World.block_lt_of_cell? _ _ hcr2.out)).trans hcr2.out
          have hfr4 := (b4.frozen (p := ⟨b5 + 1, 0, none⟩) (World.block_lt_of_cell? _ _ hcr2.out)).trans hfr2.out
          clear b4
          gi_wp2
          have hz0 := Z0.out
          have hb5' := HB5.out
          have q1 := (KeepsOthers.setCell W4 ⟨b5 + 1, 0, none⟩ (.bool true)).same D _ ((B4.out.block D (lt_of_some KD.out)).trans KD.out) rfl
          have q2 := (KeepsOthers.setCell W4 ⟨b5 + 1, 0, none⟩ (.bool true)).same D2 _ ((B4.out.block D2 (lt_of_some KD2.out)).trans KD2.out) rfl
          refine leaves_two q1 q2 HNE.out ?_
          have hK4 : (W4.setCell ⟨b5 + 1, 0, none⟩ (.bool true)).cell? ⟨b5 + 1, 0, none⟩ = some (.bool true) := World.cell?_setCell_same' W4 ⟨b5 + 1, 0, none⟩ (.bool true) (by rw [hcr4]; rfl)
          obtain ⟨hc5, bl5⟩ := two_put hK4 q1 q2 HNE.out (w := w) (by have := HD.out; have := Z3.out; omega) (by have := HD2.out; have := Z5.out; omega) ((below_tr (hb5'.symm ▸ BB.out) (by have := BB.out.size; omega) B4.out).setCell (p := ⟨b5 + 1, 0, none⟩) (by show w.heap.size ≤ b5 + 1; omega) _)
          exact ⟨.bool true, by simp [results, Try.f8, go_sem, hc5], rfl, bl5⟩

set_option maxHeartbeats 800000 in
set_option maxRecDepth 100000 in
theorem goes_no (room : Int) (A : Option Addr) (c m : Nat) (l : List ByteArray) (w : World) (h : room < 0 ∨ 65536 < room ∨ 200 < l.length) :
    Calls Try.prog 8 #[.int .i64 room, .slice A l.length c, .int .u8 m] w fun e w' => e = .returned (.bool true) ∧ Below w.heap.size w w' := by
  have fin : ∀ (w4 : World) (x : Bool), w4.cell? ⟨w.heap.size + 1, 0, none⟩ = some (.bool x) → Below w.heap.size w w4 → (w4.setCell ⟨w.heap.size + 1, 0, none⟩ (.bool true)).cell? ⟨w.heap.size + 1, 0, none⟩ = some (.bool true) ∧ Below w.heap.size w (w4.setCell ⟨w.heap.size + 1, 0, none⟩ (.bool true)) :=
    fun w4 x h b => ⟨World.cell?_setCell_same' w4 _ _ (by rw [h]; rfl), b.setCell (p := ⟨w.heap.size + 1, 0, none⟩) (by simp) _⟩
  have FIN := hid fin
  clear fin
  obtain ⟨w0, hw0⟩ : ∃ w0, (w.alloc (.cells #[.int .u8 m] 5)).alloc (.cells #[.bool false] 4) = w0 := ⟨_, rfl⟩
  have b0 : Below w.heap.size w w0 := by rw [← hw0]; exact (below_new _ _).alloc (by simp) _
  have hc1 := cell_one (w.alloc (.cells #[.int .u8 m] 5)) (.bool false) 4
  rw [World.size_alloc, hw0] at hc1
  obtain ⟨c1, f1⟩ := hc1
  have B0 := hid b0
  have C1 := hid c1
  have F1 := hid f1
  have HW := hid hw0
  clear hw0 b0 c1 f1
  by_cases h1 : room < 0 ∨ 65536 < room
  · have H1 := hid h1
    clear h h1
    go_enter Try.func8, Try.ntmps8
    go_wp2_with fail
    rw [HW.out]
    refine (new_no room w0 H1.out).mono ?_
    rintro e w1 ⟨rfl, rfl⟩
    have k6 := cell_past (.cells #[.pointer none] 38) C1.out
    have kf := frozen_past (.cells #[.pointer none] 38) C1.out F1.out
    go_wp2_with fail
    refine (awake_any _).mono ?_
    rintro e w4 ⟨rfl, b4⟩
    have hcr4 := cell_below b4 k6
    have hfr4 := (b4.frozen (p := ⟨w.heap.size + 1, 0, none⟩) (World.block_lt_of_cell? _ _ k6)).trans kf
    have B4 := hid (below_tr B0.out B0.out.size (below_trans (below_new w0 _) b4))
    clear b4 k6 kf
    go_wp2
    obtain ⟨q1, q2⟩ := FIN.out w4 _ hcr4 B4.out
    exact bodyPost_ret (v := .bool true) (by simp [results, Try.f8, go_sem, q1]) rfl ⟨rfl, q2⟩
  · have t0 : decide ((200 : Int) < (l.length : Int)) = true := by simp; omega
    obtain ⟨k, rfl⟩ := Int.eq_ofNat_of_zero_le (show 0 ≤ room by omega)
    have hk : k ≤ 65536 := by omega
    clear h h1
    go_enter Try.func8, Try.ntmps8
    go_wp2_with fail
    rw [HW.out]
    refine (new_yes k w0 hk).mono ?_
    rintro e w1 ⟨rfl, hw1⟩
    have b1 : Below w0.heap.size w0 w1 := by rw [hw1]; exact below_new _ _
    have B1 := hid b1
    have j6 := hid (cell_below b1 C1.out)
    have jf := hid ((b1.frozen (p := ⟨w.heap.size + 1, 0, none⟩) (World.block_lt_of_cell? _ _ C1.out)).trans F1.out)
    clear hw1 b1
    have k6 := cell_past (.cells #[.pointer (some ⟨w0.heap.size, 0, none⟩)] 38) j6.out
    have kf := frozen_past (.cells #[.pointer (some ⟨w0.heap.size, 0, none⟩)] 38) j6.out jf.out
    go_wp2_with fail
    refine (awake_any _).mono ?_
    rintro e w4 ⟨rfl, b4⟩
    have hcr4 := cell_below b4 k6
    have hfr4 := (b4.frozen (p := ⟨w.heap.size + 1, 0, none⟩) (World.block_lt_of_cell? _ _ k6)).trans kf
    have B4 := hid (below_tr B0.out B0.out.size (below_trans B1.out (below_trans (below_new w1 _) b4)))
    clear b4 k6 kf
    go_wp2
    obtain ⟨q1, q2⟩ := FIN.out w4 _ hcr4 B4.out
    exact bodyPost_ret (v := .bool true) (by simp [results, Try.f8, go_sem, q1]) rfl ⟨rfl, q2⟩
end Go.Proofs.Ytlekhibddmbjnaa.Str
