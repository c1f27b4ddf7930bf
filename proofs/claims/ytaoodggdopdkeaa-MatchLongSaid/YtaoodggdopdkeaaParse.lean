/- Parse, where the window may be, is the plain law's row of tokens. -/
import Derived.Laws.MakeOwn
import Derived.Test.YtaoodggdopdkeaaBest
import Derived.Test.YtaoodggdopdkeaaSizes
namespace Go.Proofs.Ytaoodggdopdkeaa
open Go.RowKit

set_option maxRecDepth 100000 in
theorem parse_no (A : Option Addr) (n c : Nat) (win : Int) (w : World) (h : win < 1 ∨ 32768 < win) :
    Calls Try.prog 10 #[.slice A n c, .int .i64 win] w fun e w' => e = .returned (.slice none 0 0) ∧ w' = w := by
  by_cases h1 : win < 1
  · clear h
    go_enter Try.func10, Try.ntmps10
    go_wp2
    go_ret
    exact ⟨rfl, rfl⟩
  · have h2 : 32768 < win := by omega
    clear h
    go_enter Try.func10, Try.ntmps10
    go_wp2
    go_ret
    exact ⟨rfl, rfl⟩
def allToks (b : List UInt8) (win : Nat) : List Tok := (Plain.toks b win).map ofTk
theorem cell_new' (w : World) (cs : Array Value) (t : TypeId) {g : Nat} (j : Nat) (hg : g = w.heap.size) : (w.alloc (.cells cs t)).cell? ⟨g, j, none⟩ = cs[j]? := by subst hg; exact cell_new w cs t (0, 0) j
theorem Finder.kept {w w' : World} {F M K c m : Nat} {b : List UInt8} {A : Option Addr} {S : List Nat} (h : Finder w F M K A c b m) (t : Touch S w w') (hF : F ∉ S) (hM : M ∉ S) (hK : K ∉ S) (hA : ∀ ad, A = some ad → ad.block ∉ S) : Finder w' F M K A c b m := by
  obtain ⟨D, ho, hD⟩ := h.map
  obtain ⟨cs, hK', hcs, hb⟩ := h.back
  obtain ⟨es, clock, hM', r⟩ := ho
  refine ⟨(t.block F h.lt hF).trans h.blk, ⟨h.bytes.1, fun i hi => ?_⟩, ⟨D, ⟨es, clock, (t.block M (Array.getElem?_eq_some_iff.1 hM').1 hM).trans hM', r⟩, hD⟩, ⟨cs, (t.block K (Array.getElem?_eq_some_iff.1 hK').1 hK).trans hK', hcs, hb⟩, h.fm, h.fk, h.mq, h.out, h.cap, h.small⟩
  obtain ⟨ad, e, hc⟩ := h.bytes.2 i hi
  exact ⟨ad, e, (World.cell?_of_block (t.block _ (World.block_lt_of_cell? w _ hc) (by rw [add_block]; exact hA ad e))).trans hc⟩
theorem toksF_len (b : List UInt8) (win : Nat) : ∀ fuel q, (Plain.toksF b win fuel q).length ≤ b.length - q
  | 0, q => by simp [Plain.toksF]
  | fuel + 1, q => by
    unfold Plain.toksF
    split
    · have := toksF_len b win fuel (q + max (Plain.tokAt b win q).len 1)
      simp only [List.length_cons]
      omega
    · simp
theorem toks_len {b : List UInt8} {win fuel q : Nat} {ts : List Tok} (_ : q < b.length) (h : ts ++ (Plain.toksF b win fuel q).map ofTk = allToks b win) : ts.length ≤ b.length := by
  have h1 := congrArg List.length h
  have h2 := toksF_len b win b.length 0
  simp [allToks, Plain.toks] at h1
  omega
theorem toks_next {b : List UInt8} {win fuel q : Nat} {ts : List Tok} (hq : q < b.length) (h : ts ++ (Plain.toksF b win (fuel + 1) q).map ofTk = allToks b win) :
    (ts ++ [ofTk (Plain.tokAt b win q)]) ++ (Plain.toksF b win fuel (q + max (Plain.tokAt b win q).len 1)).map ofTk = allToks b win := by
  rw [← h]
  have e : Plain.toksF b win (fuel + 1) q = Plain.tokAt b win q :: Plain.toksF b win fuel (q + max (Plain.tokAt b win q).len 1) := by
    show (if q < b.length then _ else _) = _
    rw [if_pos hq]
  rw [e]
  simp
theorem finder_below (w : World) (CS : Array Value) (o : Obj) : Below w.heap.size w (((w.alloc (.map #[] 0)).alloc (.cells CS 3)).alloc o) := ((below_new _ _).alloc (by simp) _).alloc (by simp; omega) _
theorem finder_size (w : World) (CS : Array Value) (o : Obj) : (((w.alloc (.map #[] 0)).alloc (.cells CS 3)).alloc o).heap.size = w.heap.size + 1 + 1 + 1 := by simp
theorem finder_new {w : World} {A : Option Addr} {c : Nat} {b : List UInt8} (CS : Array Value) (hCl : CS.size = b.length) (hb : Reads w A (bytesV b)) (hc : b.length ≤ c) (hn : b.length ≤ 1000000) :
    Finder (((w.alloc (.map #[] 0)).alloc (.cells CS 3)).alloc (.cells #[.slice A b.length c, .map (some w.heap.size), .slice (some ⟨w.heap.size + 1, 0, none⟩) b.length b.length] 50)) (w.heap.size + 1 + 1) w.heap.size (w.heap.size + 1) A c b 0 := by
  have g := block_new ((w.alloc (.map #[] 0)).alloc (.cells CS 3)) (.cells #[.slice A b.length c, .map (some w.heap.size), .slice (some ⟨w.heap.size + 1, 0, none⟩) b.length b.length] 50)
  have g1 := ((below_new ((w.alloc (.map #[] 0)).alloc (.cells CS 3)) (.cells #[.slice A b.length c, .map (some w.heap.size), .slice (some ⟨w.heap.size + 1, 0, none⟩) b.length b.length] 50)).block (w.heap.size + 1) (by simp)).trans (by simpa only [World.size_alloc] using block_new (w.alloc (.map #[] 0)) (.cells CS 3))
  simp only [World.size_alloc] at g
  refine ⟨g, hb.below (finder_below w CS _), ⟨.map [], ?_, MapIs.start b⟩, ⟨CS, g1, hCl, fun i hi => absurd hi (Nat.not_lt_zero _)⟩, by omega, by omega, by omega, fun ad e hp => ?_, hc, hn⟩
  · exact ((World.ownsMap_made w _ _ _).alloc _).alloc _
  · obtain ⟨ad', e', hcell⟩ := hb.2 0 (by simpa [bytesV] using hp)
    rw [e] at e'
    cases e'
    have := World.block_lt_of_cell? w _ hcell
    rw [add_block] at this
    omega
set_option maxHeartbeats 4000000 in
set_option maxRecDepth 100000 in
theorem parse_yes (A : Option Addr) (c win : Nat) (b : List UInt8) (w : World) (hb : Reads w A (bytesV b)) (hA : A = none → c = 0) (hc : b.length ≤ c) (hn : b.length ≤ 1000000) (h1 : 1 ≤ win) (h2 : win ≤ 32768) :
    Calls Try.prog 10 #[.slice A b.length c, .int .i64 win] w fun e w' => ∃ v, e = .returned v ∧ w'.ownsRow w.heap.size 33 3 v (allToks b win).length (flatT (allToks b win)) ∧ Below w.heap.size w w' := by
  have HB := hid hb
  have HA := hid hA
  have d1 : decide ((win : Int) < 1) = false := by simp; omega
  have d2 : decide (32768 < (win : Int)) = false := by simp; omega
  have hmm := @run_makeMap Try.prog
  obtain ⟨i3, hi3, hz3, hs3, hb3⟩ := info_parts info3
  obtain ⟨CS, hCS⟩ : ∃ CS, madeCells (Value.int .i64 0).cells (((b.length : Nat) : Int).toNat * i3.size) = CS := ⟨_, rfl⟩
  have hmk := run_make (P := Try.prog) (w.alloc (.map #[] 0)) 48 3 i3 (.int .i64 0) Try.underlying48 hi3 hz3 .i64 .i64 (b.length : Int) (b.length : Int) (by omega) (Int.le_refl _) (by rw [hb3]; omega) (by omega)
  have hCl : CS.size = b.length := by rw [← hCS, size_madeCells, hs3]; simp
  rw [hCS] at hmk
  simp only [World.size_alloc, Int.toNat_natCast] at hmk
  have HCL := hid hCl
  clear hb hA hCl hCS hz3 hs3 hb3 hi3
  go_enter Try.func10, Try.ntmps10
  go_wp2
  obtain ⟨M, hM⟩ : ∃ M, w.heap.size = M := ⟨_, rfl⟩
  have HF0 := finder_new (w := w) CS HCL.out HB.out hc hn
  have B0 := hid (finder_below w CS (.cells #[.slice A b.length c, .map (some w.heap.size), .slice (some ⟨w.heap.size + 1, 0, none⟩) b.length b.length] 50))
  have Z0 := finder_size w CS (.cells #[.slice A b.length c, .map (some w.heap.size), .slice (some ⟨w.heap.size + 1, 0, none⟩) b.length b.length] 50)
  obtain ⟨W0, hW0⟩ : ∃ W0, ((w.alloc (.map #[] 0)).alloc (.cells CS 3)).alloc (.cells #[.slice A b.length c, .map (some w.heap.size), .slice (some ⟨w.heap.size + 1, 0, none⟩) b.length b.length] 50) = W0 := ⟨_, rfl⟩
  have HM := hid hM
  rw [hW0] at HF0 B0 Z0 ⊢
  rw [hM] at HF0 B0 Z0 ⊢
  have F0 := hid HF0
  have ZZ := hid Z0
  clear hW0 hM HF0 Z0 hmk hmm
  go_loopw [6, 7] (fun v i wr => ∃ (q fuel : Nat) (ts : List Tok), i = .int .i64 q ∧ q ≤ b.length ∧ b.length - q ≤ fuel ∧ Hid (ts ++ (Plain.toksF b win fuel q).map ofTk = allToks b win) ∧ Hid (wr.ownsRow (M + 3) 33 3 v ts.length (flatT ts)) ∧ Hid (Finder wr (M + 1 + 1) M (M + 1) A c b q) ∧ Hid (Below M w wr)) (fun _ i _ => b.length - (intOf i).toNat)
  case atStart => exact ⟨0, b.length, [], rfl, by omega, by omega, hid rfl, hid (World.ownsRow_nil _ _ _ _), F0, B0⟩
  case round =>
    obtain ⟨q, fuel, ts, rfl, hq, hfu, HT, HO, HF, HBL⟩ := hrel
    by_cases hlt : q < b.length
    · have dl : decide (q < b.length) = true := by simpa using hlt
      go_wp2_with fail
      refine (put_any HF.out hlt).mono ?_
      rintro e w1 ⟨⟨ve, rfl⟩, hf1, t1⟩
      have F1 := hid hf1
      have T1 := hid t1
      clear hf1 t1
      go_wp2_with fail
      refine (best_any q win F1.out hlt).mono ?_
      rintro e w2 ⟨rfl, b2⟩
      have F2 := hid (F1.out.calm b2)
      have B2 := hid b2
      clear b2
      obtain ⟨t, ht⟩ : ∃ t, Plain.bestTo b q (min win q) = t := ⟨_, rfl⟩
      rw [ht]
      obtain ⟨t1, t2⟩ := t
      have htk : Plain.tokAt b win q = ⟨if t1 = 0 then b[q] else 0, t1, t2⟩ := by
        unfold Plain.tokAt
        rw [ht]
        simp [hlt]
      have hle := Plain.bestTo_le b q (min win q) (by omega)
      rw [ht] at hle
      obtain ⟨hle1, hle2⟩ := hle
      simp only at hle1 hle2
      have HTK := hid htk
      clear ht htk
      rw [bestV]
      have HOk := own_kept HO.out T1.out (fun g hg => by have := own_block_lt HO.out hg; simp; omega)
      have HO2 := hid (own_kept HOk (Touch.of_below B2.out []) (by simp))
      have HZ2 : Hid (M + 3 ≤ w2.heap.size + 1 + 1) := hid (by have := B2.out.size; have := T1.out.size; have := HF.out.lt; omega)
      have HTL : Hid (ts.length ≤ 5000000) := hid (by have := toks_len hlt HT.out; omega)
      clear HOk
      have HAD : Hid (∀ ad, A = some ad → ad.block < M) := hid (fun ad e => by
        obtain ⟨_, e', hcell⟩ := HB.out.2 q (by simpa [bytesV] using hlt)
        rw [e] at e'
        cases e'
        have := World.block_lt_of_cell? w _ hcell
        rw [add_block, HM.out] at this
        exact this)
      obtain ⟨ad, rfl, o1, o2, o3, bq⟩ := F2.out.byte hlt
      obtain ⟨y, hy⟩ : ∃ y, b[q] = y := ⟨_, rfl⟩
      rw [hy] at bq HTK
      obtain ⟨fuel, rfl⟩ : ∃ f, fuel = f + 1 := ⟨fuel - 1, by omega⟩
      have HT1 := toks_next hlt HT.out
      by_cases h0 : t1 = 0
      · subst h0
        have htk : ofTk (Plain.tokAt b win q) = ⟨y, 0, t2⟩ := by rw [HTK.out]; rfl
        have hnx : q + max (Plain.tokAt b win q).len 1 = q + 1 := by rw [HTK.out]; rfl
        rw [htk, hnx] at HT1
        rw [show ((0 : Nat) : Int) = 0 from rfl]
        obtain ⟨z, hz⟩ : ∃ z : Int, (t2 : Int) = z := ⟨_, rfl⟩
        rw [hz] at HT1 ⊢
        have HT2 := hid HT1
        have bq2 := cell_past (.cells #[.int .u8 0, .int .i64 0, .int .i64 z] 33) bq
        clear hy hz htk hnx HT1
        go_wp2_with (at_builtin; refine wpList_append_tok rfl (.tmp 41) (.tmp 43) 24 33 rfl Try.underlying24 info33 (M + 3) _ ts rfl ((HO2.out.alloc _).alloc _) (w2.heap.size + 1) ⟨y, 0, z⟩ rfl ?c0 ?c1 ?c2 ?c3 ?c4 ?_)
        case c3 => exact HTL.out
        case c4 => have := HZ2.out; simp; omega
        intro v3 w3 o3 g3
        have HO3 := hid o3
        have tg := Touch.grown g3
        have hne : ∀ k ∈ u6.ownBlock.toList, M + 3 ≤ k ∧ k < w2.heap.size := fun k hk => by
          have hg : u6.ownBlock = some k := by simpa using hk
          have h1 := own_block_lt HO2.out hg
          exact h1
        have hx : w3.cell? ⟨w2.heap.size, 1, none⟩ = some (.int .i64 0) := by
          refine (World.cell?_of_block (tg.block _ (by simp; omega) (fun hk => by have := (hne _ hk).2; simp at this))).trans ?_
          exact cell_past _ ((cell_new' w2 _ _ 1 rfl).trans rfl)
        have HF3 : Hid (Finder w3 (M + 1 + 1) M (M + 1) (some ad) c b (q + 1)) := hid (((F2.out.calm (below_new _ _)).calm (below_new _ _)).kept tg (fun hk => by have := (hne _ hk).1; omega) (fun hk => by have := (hne _ hk).1; omega) (fun hk => by have := (hne _ hk).1; omega) (fun e he hk => by cases he; have := (hne _ hk).1; have := HAD.out _ rfl; omega))
        have HB3 : Hid (Below M w w3) := hid (by
          have e1 : Below M w w1 := Touch.below HBL.out (by have := HF.out.lt; omega) T1.out (by simp)
          have e2 : Below M w w2 := below_tr e1 (by have := HZ2.out; have := B2.out.size; have := F1.out.lt; omega) B2.out
          have e3 := (e2.alloc (by have := HZ2.out; omega) (.cells #[.int .u8 y.toNat, .int .i64 0, .int .i64 z] 33)).alloc (by have := HZ2.out; simp; omega) (.cells #[.int .u8 y.toNat, .int .i64 0, .int .i64 z] 33)
          exact Touch.below e3 (by have := HZ2.out; simp; omega) tg (fun k hk => by have := (hne _ hk).1; omega))
        clear o3 g3 tg hne
        go_wp2
        go_loopw [7, 49] (fun i j wr => i = .int .i64 (q : Int) ∧ j = .int .i64 0 ∧ wr = w3) (fun _ _ _ => 0)
        case atStart => exact ⟨rfl, rfl, rfl⟩
        case round =>
          obtain ⟨rfl, rfl, rfl⟩ := hrel
          go_wp2
          go_roundw
          case rel => exact ⟨q + 1, fuel, ts ++ [⟨y, 0, z⟩], by go_num, by omega, by omega, HT2, hid (by rw [List.length_append]; exact HO3.out), HF3, HB3⟩
          case measure => simp [intOf]; omega
      · obtain ⟨n, hn1⟩ : ∃ n, t1 = n + 1 := ⟨t1 - 1, by omega⟩
        subst hn1
        have htk : ofTk (Plain.tokAt b win q) = ⟨0, ((n + 1 : Nat) : Int), t2⟩ := by rw [HTK.out]; rfl
        have hnx : q + max (Plain.tokAt b win q).len 1 = q + 1 + n := by rw [HTK.out]; show q + max (n + 1) 1 = _; omega
        rw [htk, hnx] at HT1
        obtain ⟨z, hz⟩ : ∃ z : Int, (t2 : Int) = z := ⟨_, rfl⟩
        obtain ⟨x, hxx⟩ : ∃ x : Int, ((n + 1 : Nat) : Int) = x := ⟨_, rfl⟩
        rw [hz] at HT1 ⊢
        rw [hxx] at HT1 ⊢
        have hx1 : 1 ≤ x := by omega
        have hx2 : x ≤ 258 := by omega
        have hxn : x - 1 = (n : Int) := by omega
        have HXX := hid hxx
        have HT2 := hid HT1
        have d0 : (x == 0) = false := by simp; omega
        clear hy hz htk hnx HT1 bq hxx
        go_wp2_with (at_builtin; refine wpList_append_tok rfl (.tmp 41) (.tmp 43) 24 33 rfl Try.underlying24 info33 (M + 3) _ ts rfl ((HO2.out.alloc _).alloc _) (w2.heap.size + 1) ⟨0, x, z⟩ rfl ?e0 ?e1 ?e2 ?e3 ?e4 ?_)
        case e3 => exact HTL.out
        case e4 => have := HZ2.out; simp; omega
        intro v3 w3 o3 g3
        have HO3 := hid o3
        have tg := Touch.grown g3
        have hne : ∀ k ∈ u6.ownBlock.toList, M + 3 ≤ k ∧ k < w2.heap.size := fun k hk => by
          have hg : u6.ownBlock = some k := by simpa using hk
          have h1 := own_block_lt HO2.out hg
          exact h1
        have hx : w3.cell? ⟨w2.heap.size, 1, none⟩ = some (.int .i64 x) := by
          refine (World.cell?_of_block (tg.block _ (by simp; omega) (fun hk => by have := (hne _ hk).2; simp at this))).trans ?_
          exact cell_past _ ((cell_new' w2 _ _ 1 rfl).trans rfl)
        have HF3 : Hid (Finder w3 (M + 1 + 1) M (M + 1) (some ad) c b (q + 1)) := hid (((F2.out.calm (below_new _ _)).calm (below_new _ _)).kept tg (fun hk => by have := (hne _ hk).1; omega) (fun hk => by have := (hne _ hk).1; omega) (fun hk => by have := (hne _ hk).1; omega) (fun e he hk => by cases he; have := (hne _ hk).1; have := HAD.out _ rfl; omega))
        have HB3 : Hid (Below M w w3) := hid (by
          have e1 : Below M w w1 := Touch.below HBL.out (by have := HF.out.lt; omega) T1.out (by simp)
          have e2 : Below M w w2 := below_tr e1 (by have := HZ2.out; have := B2.out.size; have := F1.out.lt; omega) B2.out
          have e3 := (e2.alloc (by have := HZ2.out; omega) (.cells #[.int .u8 0, .int .i64 x, .int .i64 z] 33)).alloc (by have := HZ2.out; simp; omega) (.cells #[.int .u8 0, .int .i64 x, .int .i64 z] 33)
          exact Touch.below e3 (by have := HZ2.out; simp; omega) tg (fun k hk => by have := (hne _ hk).1; omega))
        clear o3 g3 tg hne
        go_wp2
        obtain ⟨ts2, hts2⟩ : ∃ l, ts ++ [(⟨0, x, z⟩ : Tok)] = l := ⟨_, rfl⟩
        have HO4 : Hid (w3.ownsRow (M + 3) 33 3 v3 ts2.length (flatT ts2)) := hid (by rw [← hts2, List.length_append]; exact HO3.out)
        rw [hts2] at HT2
        clear HO3 hts2
        go_loopw [7, 49] (fun i j wr => ∃ k : Nat, k ≤ n ∧ j = .int .i64 k ∧ i = .int .i64 ((q : Int) + k) ∧ Hid (wr.ownsRow (M + 3) 33 3 v3 ts2.length (flatT ts2)) ∧ Hid (Finder wr (M + 1 + 1) M (M + 1) (some ad) c b (q + 1 + k)) ∧ Hid (Below M w wr)) (fun _ j _ => n - (intOf j).toNat)
        case atStart => exact ⟨0, Nat.zero_le _, rfl, by simp, HO4, HF3, HB3⟩
        case round =>
          obtain ⟨k, hk, rfl, rfl, HOk, HFk, HBk⟩ := hrel
          by_cases hkn : k < n
          · go_wp2_with fail
            rw [show (q : Int) + (k : Int) + 1 = ((q + 1 + k : Nat) : Int) by omega]
            refine (put_any HFk.out (by omega)).mono ?_
            rintro e w5 ⟨⟨ve5, rfl⟩, hf5, t5⟩
            have HO5 := hid (own_kept HOk.out t5 (fun g hg => by have := own_block_lt HOk.out hg; simp; omega))
            have HF5 := hid hf5
            have HB5 := hid (Touch.below HBk.out (by have := HFk.out.lt; omega) t5 (by simp))
            clear hf5 t5
            go_wp2
            go_roundw
            case rel => exact ⟨k + 1, by omega, by go_num, by go_num, HO5, HF5, HB5⟩
            case measure => simp [intOf]; omega
          · obtain rfl : k = n := by omega
            go_wp2
            go_roundw
            case rel => exact ⟨q + 1 + k, fuel, ts2, by go_num, by omega, by omega, HT2, HOk, HFk, HBk⟩
            case measure => simp [intOf]; omega
    · have hqe : q = b.length := by omega
      have hall : ts = allToks b win := by
        have h := HT.out
        have e : Plain.toksF b win fuel q = [] := by
          cases fuel with
          | zero => rfl
          | succ f => show (if q < b.length then _ else _) = _; rw [if_neg hlt]
        rw [e] at h
        simpa using h
      subst hall
      have dl : decide (q < b.length) = false := by simpa using hlt
      go_wp2
      go_ret
      exact ⟨_, rfl, own_mono HO.out (by rw [HM.out]; omega), by rw [HM.out]; exact HBL.out⟩
end Go.Proofs.Ytaoodggdopdkeaa
