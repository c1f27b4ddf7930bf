/- The walk of MatchLits. -/
import Derived.Laws.Cover3
import Derived.Test.YtaoodggdopdkeaaLaws
namespace Go.Proofs.Ytaoodggdopdkeaa
open Go.RowKit Go.ChangeMaps Go.MapKept

theorem mem_push_born {es : Array MapEntry} {clock : Nat} (hs : ∀ x ∈ es.toList, x.born < clock) (x : MapEntry) (hx : x.born = clock) :
    (es.push x).findIdx? (fun e => (e.born : Int) == (clock : Int)) = some es.size := by
  rw [Array.findIdx?_push]
  have h0 : es.findIdx? (fun e => (e.born : Int) == (clock : Int)) = none := by
    rw [Array.findIdx?_eq_none_iff]
    intro e he
    have := hs e (by simpa using he)
    simp
    omega
  rw [h0]
  simp [hx]
theorem modify_push {es : Array MapEntry} (x : MapEntry) (f : MapEntry → MapEntry) : (es.push x).modify es.size f = es.push (f x) := by
  apply Array.ext
  · simp
  · intro i h1 h2
    simp only [Array.getElem_modify, Array.getElem_push]
    simp at h1
    by_cases h : i < es.size
    · rw [if_neg (by omega)]; simp [h]
    · rw [if_pos (by omega)]; simp [h]
/-- m[k]++ at a key that is not there -/
theorem bump_new {w : World} {M n : Nat} {D : DataW Unit} {key : Value} {kl : Lit} (hown : w.ownsMap Try.prog 36 (plainElem Try.prog 3) M n D) (hn : n < maxLen) (hkey : keyOf Try.prog 36 key = some kl) (hno : Maps.has D kl = false) (hz : D.atKey kl (.lit (.int .i64 0)) = .lit (.int .i64 0)) :
    ∃ (cl : Nat) (wa wb : World), (Instr.lookup 35 (.map (some M)) key false).run Try.prog w = .ok (.int .i64 0) w ∧ (Instr.mapEntry 35 (.map (some M)) key).run Try.prog w = .ok (.tuple #[.int .i64 0, .int .i64 cl]) wa ∧
      (Instr.lookup 35 (.map (some M)) key false).run Try.prog wa = .ok (.int .i64 0) wa ∧ (Instr.entryStore 35 (.map (some M)) (.int .i64 cl) (.int .i64 1)).run Try.prog wa = .ok () wb ∧
      wb.ownsMap Try.prog 36 (plainElem Try.prog 3) M (n + 1) (D.put kl (.lit (.int .i64 1))) ∧ w.grownBy wb (some M) := by
  have look0 := hown.lookup_int law36 Try.underlying35 Try.underlying3 (zero3 w) hkey
  obtain ⟨c0, hl0, ha0, _⟩ := look0
  rw [hz] at ha0
  simp only [DataW.lit.injEq, Lit.int.injEq, true_and] at ha0
  subst ha0
  obtain ⟨wa, hra, hoa, hga⟩ := hown.update law36 Try.underlying35 hn hkey (plainElem_int (P := Try.prog) Try.underlying3 (a := 0) (by decide))
  obtain ⟨wb, hrb, hob, hgb⟩ := hown.update law36 Try.underlying35 hn hkey (plainElem_int (P := Try.prog) Try.underlying3 (a := 1) (by decide))
  obtain ⟨c1, hl1, ha1, _⟩ := hoa.lookup_int law36 Try.underlying35 Try.underlying3 (zero3 wa) hkey
  rw [Maps.atKey_put_same (hown.isMap) (law36.key hkey)] at ha1
  simp only [DataW.lit.injEq, Lit.int.injEq, true_and] at ha1
  subst ha1
  obtain ⟨es, clock, hb, F, hs, rfl⟩ := hown
  rcases law36.find w hkey es.toList F.keys with ⟨h1, h2⟩ | ⟨j, e0, h1, h2, h3⟩
  · have upd : ∀ v : Int, (Instr.mapUpdate 35 (.map (some M)) key (.int .i64 v)).run Try.prog w = .ok () (setBlock w M (.map (es.push ⟨key, .int .i64 v, clock⟩) (clock + 1))) := fun v => by
      simp [Instr.mapUpdate, run_underlying Try.underlying35, MapKept.run_getObj_map hb, law36.check w false hkey, h1, MapKept.run_setObj_map _ hb, Result.andThen, setBlock]
    rw [upd 0] at hra
    rw [upd 1] at hrb
    simp only [Result.ok.injEq, true_and] at hra hrb
    subst hra
    subst hrb
    refine ⟨clock, _, _, hl0, ?_, hl1, ?_, hob, hgb⟩
    · simp [Instr.mapEntry, run_underlying Try.underlying35, MapKept.run_getObj_map hb, law36.check w false hkey, h1, MapKept.run_setObj_map _ hb, Result.andThen, setBlock, goInt]
    · have hba := heap_setBlock_same hb (.map (es.push ⟨key, .int .i64 0, clock⟩) (clock + 1))
      have hf := mem_push_born F.stamped.1 ⟨key, .int .i64 0, clock⟩ rfl
      have e1 : ∀ wa : World, wa.heap[M]? = some (.map (es.push ⟨key, .int .i64 0, clock⟩) (clock + 1)) → (Instr.entryStore 35 (.map (some M)) (.int .i64 clock) (.int .i64 1)).run Try.prog wa = .ok () { wa with heap := wa.heap.setIfInBounds M (.map (es.push ⟨key, .int .i64 1, clock⟩) (clock + 1)) } := fun wa hba => by
        simp [Instr.entryStore, MapKept.run_getObj_map hba, asInt, asIntOf, Result.andThen, hf, modify_push, MapKept.run_setObj_map _ hba]
      rw [e1 _ hba]
      simp [setBlock]
  · exfalso
    have hmem : e0 ∈ es.toList := List.mem_of_getElem? h2
    rcases Maps.fit_look false law36 Try.underlying35 (zero3 w) hb F hkey with ⟨_, hne, _⟩ | ⟨e1, y, _, _, _, _, hat, _⟩
    · exact hne e0 hmem h3
    · rw [Maps.has_true_of_atKey hat] at hno; cases hno

/-- the first m places begin with unlike three bytes -/
def Distinct (b : List UInt8) (m : Nat) : Prop := ∀ i j, i < j → j < m → j + 3 ≤ b.length → Plain.key b i ≠ Plain.key b j
def lits (b : List UInt8) : List Tok := b.map fun c => ⟨c, 0, 0⟩
theorem best_none {b : List UInt8} (h : Distinct b b.length) {q m : Nat} (hq : q < b.length) (hm : m ≤ q) : Plain.bestTo b q m = (0, 0) := by
  have := Plain.bestTo_skip b q 0 (by omega) m (by omega) (fun i h1 h2 hs => h (q - i) q (by omega) hq hs.1 hs.2)
  rw [Nat.zero_add] at this
  rw [this]
  rfl
theorem toks_lits {b : List UInt8} (h : Distinct b b.length) (win : Nat) : ∀ fuel q, q ≤ b.length → b.length - q ≤ fuel → (Plain.toksF b win fuel q).map ofTk = lits (b.drop q)
  | 0, q, hq, hf => by
    obtain rfl : q = b.length := by omega
    simp [Plain.toksF, lits]
  | fuel + 1, q, hq, hf => by
    by_cases hlt : q < b.length
    · have ht : Plain.tokAt b win q = ⟨b[q], 0, 0⟩ := by
        unfold Plain.tokAt
        rw [best_none h hlt (by omega)]
        simp [hlt]
      have e : Plain.toksF b win (fuel + 1) q = Plain.tokAt b win q :: Plain.toksF b win fuel (q + max (Plain.tokAt b win q).len 1) := by
        show (if q < b.length then _ else _) = _
        rw [if_pos hlt]
      rw [e, ht, List.map_cons, show q + max (Plain.Tk.mk b[q] 0 0).len 1 = q + 1 from rfl, toks_lits h win fuel (q + 1) (by omega) (by omega), List.drop_eq_getElem_cons hlt]
      rfl
    · obtain rfl : q = b.length := by omega
      have e : Plain.toksF b win (fuel + 1) b.length = [] := by
        show (if b.length < b.length then _ else _) = _
        rw [if_neg (Nat.lt_irrefl _)]
      rw [e]
      simp [lits]
theorem all_lits {b : List UInt8} (h : Distinct b b.length) (win : Nat) : allToks b win = lits b := by
  have := toks_lits h win b.length 0 (by omega) (by omega)
  simpa [allToks, Plain.toks] using this
/-- the map tells 1 of each three bytes that were seen -/
def MapOne (D : DataW Unit) (b : List UInt8) (m : Nat) : Prop :=
  Maps.IsMap D ∧ ∀ k : List UInt8, k.length = 3 → D.atKey (keyLit k) (.lit (.int .i64 0)) = .lit (.int .i64 (if (Plain.lastOf b k m).isSome then 1 else 0)) ∧ Maps.has D (keyLit k) = (Plain.lastOf b k m).isSome
theorem MapOne.start (b : List UInt8) : MapOne (.map []) b 0 := ⟨Maps.isMap_empty, fun _ _ => ⟨rfl, rfl⟩⟩
theorem MapOne.put {D : DataW Unit} {b : List UInt8} {m : Nat} (h : MapOne D b m) (hm : m + 3 ≤ b.length) : MapOne (D.put (keyLit (Plain.key b m)) (.lit (.int .i64 1))) b (m + 1) := by
  have hkl : (Plain.key b m).length = 3 := by simp [Plain.key]; omega
  refine ⟨h.1.put _ _, fun k hk => ?_⟩
  have e : Plain.lastOf b k (m + 1) = if Plain.key b m = k then some m else Plain.lastOf b k m := by
    show (if m + 3 ≤ b.length ∧ Plain.key b m = k then _ else _) = _
    by_cases h' : Plain.key b m = k
    · rw [if_pos ⟨hm, h'⟩, if_pos h']
    · rw [if_neg (fun x => h' x.2), if_neg h']
  rw [e]
  by_cases h' : Plain.key b m = k
  · subst h'
    rw [if_pos rfl]
    exact ⟨Maps.atKey_put_same h.1 (keyLit_key _) _ _, Maps.has_put_same h.1 (keyLit_key _) _⟩
  · rw [if_neg h']
    have hne : keyLit k ≠ keyLit (Plain.key b m) := fun x => h' (keyLit_inj hkl hk x.symm)
    rw [Maps.atKey_put_other hne, Maps.has_put_other hne]
    exact h.2 k hk
theorem Distinct.next {b : List UInt8} {m : Nat} (h : Distinct b m) (hn : Plain.lastOf b (Plain.key b m) m = none) : Distinct b (m + 1) := fun i j hij hj hl => by
  by_cases e : j = m
  · subst e; exact Plain.lastOf_none hn i hij (by omega)
  · exact h i j hij (by omega) hl
theorem Distinct.over {b : List UInt8} {m : Nat} (h : Distinct b m) (hm : b.length < m + 3) : Distinct b b.length := fun i j hij _ hl => h i j hij (by omega) hl

set_option maxHeartbeats 1000000 in
set_option maxRecDepth 100000 in
theorem lits_no (A : Option Addr) (n c : Nat) (win : Int) (w : World) (hn : n ≤ 9223372036854775807) (h : 200 < n ∨ win < 1 ∨ 32768 < win) :
    Calls Try.prog 5 #[.slice A n c, .int .i64 win] w fun e w' => e = .returned (.bool true) ∧ Below w.heap.size w w' := by
  by_cases h1 : 200 < n
  · have t1 : decide ((200 : Int) < n) = true := by simp; omega
    clear h
    go_enter Try.func5, Try.ntmps5
    go_wp2_with fail
    refine (awake_any w).mono ?_
    rintro e w1 ⟨rfl, b1⟩
    have B1 := hid b1
    clear b1
    go_wp2
    go_ret
    exact ⟨rfl, B1.out⟩
  · have t1 : decide ((200 : Int) < n) = false := by simp; omega
    by_cases h2 : win < 1
    · clear h
      go_enter Try.func5, Try.ntmps5
      go_wp2_with fail
      refine (awake_any w).mono ?_
      rintro e w1 ⟨rfl, b1⟩
      have B1 := hid b1
      clear b1
      go_wp2
      go_ret
      exact ⟨rfl, B1.out⟩
    · have h3 : 32768 < win := by omega
      clear h
      go_enter Try.func5, Try.ntmps5
      go_wp2_with fail
      refine (awake_any w).mono ?_
      rintro e w1 ⟨rfl, b1⟩
      have B1 := hid b1
      clear b1
      go_wp2
      go_ret
      exact ⟨rfl, B1.out⟩
set_option maxHeartbeats 4000000 in
set_option maxRecDepth 100000 in
theorem lits_yes (A : Option Addr) (c win : Nat) (b : List UInt8) (w : World) (hb : Reads w A (bytesV b)) (hA : A = none → c = 0) (hc : b.length ≤ c) (hn : b.length ≤ 200) (h1 : 1 ≤ win) (h2 : win ≤ 32768) :
    Calls Try.prog 5 #[.slice A b.length c, .int .i64 win] w fun e w' => e = .returned (.bool true) ∧ Below w.heap.size w w' := by
  have HB := hid hb
  have HA := hid hA
  have t1 : decide ((200 : Int) < (b.length : Int)) = false := by simp; omega
  have t2 : decide ((win : Int) < 1) = false := by simp; omega
  have t3 : decide ((32768 : Int) < (win : Int)) = false := by simp; omega
  have hmm := @run_makeMap Try.prog
  clear hb hA
  go_enter Try.func5, Try.ntmps5
  go_wp2
  clear hmm
  obtain ⟨M, hM⟩ : ∃ M, w.heap.size = M := ⟨_, rfl⟩
  have HM := hid hM
  have ho0 : Hid ((w.alloc (.map #[] 0)).ownsMap Try.prog 36 (plainElem (H := Unit) Try.prog 3) M 0 (.map [])) := hid (by rw [← hM]; exact World.ownsMap_made w _ _ _)
  have hb0 : Hid (Below M w (w.alloc (.map #[] 0))) := hid (by rw [← hM]; exact below_new _ _)
  rw [hM]
  clear hM
  go_loopw [6] (fun i wr => ∃ (k : Nat) (D : DataW Unit), k ≤ b.length ∧ i = .int .i64 k ∧ Hid (wr.ownsMap Try.prog 36 (plainElem Try.prog 3) M k D) ∧ Hid (MapOne D b k) ∧ Hid (Distinct b k) ∧ Hid (Below M w wr)) (fun i _ => b.length - (intOf i).toNat)
  case atStart => exact ⟨0, .map [], Nat.zero_le _, rfl, ho0, hid (MapOne.start b), hid (fun i j _ hj => absurd hj (Nat.not_lt_zero _)), hb0⟩
  case round =>
    obtain ⟨k, D, hk, rfl, HO, HD, HDI, HBL⟩ := hrel
    by_cases h3 : k + 3 ≤ b.length
    · have d1 : decide ((k : Int) + 3 ≤ (b.length : Int)) = true := by simp; omega
      have hrd := HB.out.below (by rw [HM.out]; exact HBL.out)
      obtain ⟨ad, rfl, x0⟩ := hrd.2 k (by simp [bytesV]; omega)
      obtain ⟨_, e1, x1⟩ := hrd.2 (k + 1) (by simp [bytesV]; omega)
      cases e1
      obtain ⟨_, e1, x2⟩ := hrd.2 (k + 2) (by simp [bytesV]; omega)
      cases e1
      have hkc := key_cons h3
      have a0 : wr.cell? (ad.add k) = some (.int .u8 (b[k]).toNat) := by simpa [bytesV] using x0
      have a1 : wr.cell? (ad.add (k + 1)) = some (.int .u8 (b[k + 1]).toNat) := by simpa [bytesV] using x1
      have a2 : wr.cell? (ad.add (k + 2)) = some (.int .u8 (b[k + 2]).toNat) := by simpa [bytesV] using x2
      obtain ⟨y0, hy0⟩ : ∃ y, b[k] = y := ⟨_, rfl⟩
      obtain ⟨y1, hy1⟩ : ∃ y, b[k + 1] = y := ⟨_, rfl⟩
      obtain ⟨y2, hy2⟩ : ∃ y, b[k + 2] = y := ⟨_, rfl⟩
      rw [hy0, hy1, hy2] at hkc
      rw [hy0] at a0
      rw [hy1, add_one'] at a1
      rw [hy2, add_two'] at a2
      have hat : ∀ w, (Instr.arrayAt 36 (.slice (some (ad.add k)) (b.length - k) (c - k))).run Try.prog w = .ok (.pointer (some (ad.add k))) w := fun w => run_arrayAt w 36 _ 3 _ _ _ Try.underlying36 (by omega)
      have HKC := hid hkc
      have hgk : (Plain.key b k).length = 3 := by rw [hkc]; rfl
      obtain ⟨hatk, hhas⟩ := HD.out.2 (Plain.key b k) hgk
      have hkey : keyOf Try.prog 36 (.agg #[.int .u8 y0.toNat, .int .u8 y1.toNat, .int .u8 y2.toNat]) = some (keyLit (Plain.key b k)) := by rw [hkc]; exact key_three _ _ _
      have HKEY := hid hkey
      have HATK := hid hatk
      have HHAS := hid hhas
      obtain ⟨G, hG⟩ : ∃ G, wr.heap.size = G := ⟨_, rfl⟩
      obtain ⟨W2, hW2⟩ : ∃ W2, wr.alloc (.cells #[.int .u8 y0.toNat, .int .u8 y1.toNat, .int .u8 y2.toNat] 36) = W2 := ⟨_, rfl⟩
      have n0 : W2.cell? ⟨G, 0, none⟩ = some (.int .u8 y0.toNat) := by rw [← hW2, ← hG, cell_new]; rfl
      have n1 : W2.cell? ⟨G, 1, none⟩ = some (.int .u8 y1.toNat) := by rw [← hW2, ← hG, cell_new]; rfl
      have n2 : W2.cell? ⟨G, 2, none⟩ = some (.int .u8 y2.toNat) := by rw [← hW2, ← hG, cell_new]; rfl
      have HO2 : Hid (W2.ownsMap Try.prog 36 (plainElem Try.prog 3) M k D) := hid (by rw [← hW2]; exact HO.out.alloc _)
      have HMl : Hid (M ≤ wr.heap.size) := hid (by have := HO.out.lt; omega)
      have HB2 : Hid (Below M w W2) := hid (by rw [← hW2]; exact HBL.out.alloc HMl.out _)
      clear hrd x0 x1 x2 hy0 hy1 hy2 hkc hgk hatk hhas hkey
      cases hlo : Plain.lastOf b (Plain.key b k) k with
      | some q =>
        have hl : (Instr.lookup 35 (.map (some M)) (.agg #[.int .u8 y0.toNat, .int .u8 y1.toNat, .int .u8 y2.toNat]) false).run Try.prog W2 = .ok (.int .i64 1) W2 := by
          obtain ⟨v, hrun, hv, _⟩ := HO2.out.lookup_int law36 Try.underlying35 Try.underlying3 (zero3 _) HKEY.out
          rw [HATK.out, hlo] at hv
          simp at hv
          rw [hrun, ← hv]
        clear hlo
        go_wp2_with fail
        refine (awake_any W2).mono ?_
        rintro e w6 ⟨rfl, b6⟩
        have B6 := hid (below_trans (show Below w.heap.size w W2 by rw [HM.out]; exact HB2.out) b6)
        clear b6 hl n0 n1 n2 hat hW2
        go_wp2
        go_ret
        exact ⟨rfl, B6.out⟩
      | none =>
        have HLO := hid hlo
        have hz : D.atKey (keyLit (Plain.key b k)) (.lit (.int .i64 0)) = .lit (.int .i64 0) := by rw [HATK.out, hlo]; rfl
        have hno : Maps.has D (keyLit (Plain.key b k)) = false := by rw [HHAS.out, hlo]; rfl
        have hl : (Instr.lookup 35 (.map (some M)) (.agg #[.int .u8 y0.toNat, .int .u8 y1.toNat, .int .u8 y2.toNat]) false).run Try.prog W2 = .ok (.int .i64 0) W2 := by
          obtain ⟨v, hrun, hv, _⟩ := HO2.out.lookup_int law36 Try.underlying35 Try.underlying3 (zero3 _) HKEY.out
          rw [hz] at hv
          simp at hv
          rw [hrun, ← hv]
        obtain ⟨cl, wa, wb, l1, m1, l2, s1, ob, gb⟩ := bump_new (HO2.out.drew) (by unfold maxLen; omega) HKEY.out hno hz
        have OB := hid ob
        have HB9 : Hid (Below M w wb) := hid (Touch.below (HB2.out.drew) (by have := HB2.out.size; rw [HM.out] at this; exact this) (Touch.grown gb) (by simp))
        have HD9 := hid (HD.out.put h3)
        have HI9 := hid (HDI.out.next hlo)
        clear hlo hz hno ob gb
        go_wp2
        go_region
        all_goals
          go_wp2
          go_roundw
          case rel => exact ⟨k + 1, _, by omega, by go_num, OB, HD9, HI9, HB9⟩
          case measure => simp [intOf]; omega
    · have d1 : decide ((k : Int) + 3 ≤ (b.length : Int)) = false := by simp; omega
      have HDI2 : Hid (Distinct b b.length) := hid (HDI.out.over (by omega))
      have hrd := HB.out.below (by rw [HM.out]; exact HBL.out)
      have HRD := hid hrd
      clear hrd
      go_wp2_with fail
      refine (parse_reads A c win b wr HRD.out HA.out hc (by omega) h1 h2).mono ?_
      rintro e w1 ⟨A1, c1, rfl, hr, hz, hcl, b1⟩
      rw [all_lits HDI2.out win] at hr hcl ⊢
      have hll : (lits b).length = b.length := by simp [lits]
      rw [hll] at hcl ⊢
      have HR := hid hr
      have HB1 := hid (HRD.out.below b1)
      have B1 := hid (below_trans (show Below w.heap.size w wr by rw [HM.out]; exact HBL.out) b1)
      have HLL := hid hll
      clear hr b1 hz hll
      go_wp2
      go_loopw [52] (fun i wr => ∃ k : Nat, k ≤ b.length ∧ i = .int .i64 k ∧ Hid (Below w1.heap.size w1 wr)) (fun i _ => b.length - (intOf i).toNat)
      case atStart => exact ⟨0, Nat.zero_le _, rfl, hid (Below.refl _ _)⟩
      case round =>
        obtain ⟨j, hj, rfl, HK⟩ := hrel
        obtain ⟨wq, rfl⟩ : ∃ wo : World, wo = wr := ⟨_, rfl⟩
        by_cases hlt : j < b.length
        · have dl : decide (j < b.length) = true := by simpa using hlt
          obtain ⟨adt, rfl, c0, c1', c2', _⟩ := (HR.out.below HK.out).2 j (by rw [HLL.out]; exact hlt)
          obtain ⟨ad, rfl, xb⟩ := (HB1.out.below HK.out).2 j (by simpa [bytesV] using hlt)
          have xb2 : wq.cell? (ad.add j) = some (.int .u8 (b[j]).toNat) := by simpa [bytesV] using xb
          simp only [lits, List.getElem_map] at c0 c1' c2'
          obtain ⟨y, hy⟩ : ∃ y : Int, ((b[j]).toNat : Int) = y := ⟨_, rfl⟩
          rw [hy] at xb2 c0
          have hjl : (j : Int) < (b.length : Int) := by omega
          have hj0 : (0 : Int) ≤ (j : Int) := by omega
          have d2 : decide ((b.length : Int) ≤ (j : Int)) = false := by simp; omega
          have d3 : decide (b.length ≤ j) = false := by simp; omega
          clear xb hy
          go_wp2
          obtain ⟨W0, hW0⟩ : ∃ W0, wq.alloc (.cells #[.int .u8 y, .int .i64 0, .int .i64 0] 33) = W0 := ⟨_, rfl⟩
          obtain ⟨G, hG⟩ : ∃ G, wq.heap.size = G := ⟨_, rfl⟩
          have g0 : W0.cell? ⟨G, 0, none⟩ = some (.int .u8 y) := by rw [← hW0, ← hG, cell_new]; rfl
          have g1 : W0.cell? ⟨G, 1, none⟩ = some (.int .i64 0) := by rw [← hW0, ← hG, cell_new]; rfl
          have g2 : W0.cell? ⟨G, 2, none⟩ = some (.int .i64 0) := by rw [← hW0, ← hG, cell_new]; rfl
          have xb3 := cell_past (.cells #[.int .u8 y, .int .i64 0, .int .i64 0] 33) xb2
          have bW : Below w1.heap.size w1 W0 := by rw [← hW0]; exact below_trans HK.out (below_new _ _)
          rw [hW0] at xb3
          rw [hW0, hG]
          have BW := hid bW
          clear hW0 hG c0 c1' c2' bW xb2
          go_quiet (fail)
          have BL : Hid (Below w1.heap.size w1 (W0.drewN nq)) := hid (BW.out.trans ((Calm.of_drewN W0 nq).below _))
          clear g0 g1 g2 xb3
          go_wp2
          go_roundw
          case rel => exact ⟨j + 1, by omega, by go_num, BL⟩
          case measure => simp [intOf]; omega
        · have dl : decide (j < b.length) = false := by simpa using hlt
          go_wp2_with fail
          refine (awake_any wq).mono ?_
          rintro e w6 ⟨rfl, b6⟩
          have B6 := hid b6
          clear b6
          go_wp2
          go_ret
          exact ⟨rfl, below_trans (below_trans B1.out HK.out) B6.out⟩
theorem lits_any (A : Option Addr) (c : Nat) (win : Int) (b : List UInt8) (w : World) (hb : Reads w A (bytesV b)) (hA : A = none → c = 0) (hc : b.length ≤ c) :
    Calls Try.prog 5 #[.slice A b.length c, .int .i64 win] w fun e w' => e = .returned (.bool true) ∧ Below w.heap.size w w' := by
  by_cases h : b.length ≤ 200 ∧ 1 ≤ win ∧ win ≤ 32768
  · obtain ⟨h1, h2, h3⟩ := h
    obtain ⟨n, rfl⟩ := Int.eq_ofNat_of_zero_le (show 0 ≤ win by omega)
    exact lits_yes A c n b w hb hA hc h1 (by omega) (by omega)
  · exact lits_no A _ c win w (by have := hb.1; simpa [bytesV] using this) (by omega)
end Go.Proofs.Ytaoodggdopdkeaa
