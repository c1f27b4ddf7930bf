/- The walk of MatchJoins. -/
import Derived.Test.YtaoodggdopdkeaaExpands
namespace Go.Proofs.Ytaoodggdopdkeaa
open Go.RowKit

def litT (c : UInt8) : Tok := ⟨c, 0, 0⟩
theorem expand_append : ∀ (l m : List Tok) (out : List UInt8), expand out (l ++ m) = if (expand out l).1 = 0 then expand (expand out l).2 m else ((expand out l).1, [])
  | [], m, out => rfl
  | t :: l, m, out => by
    show (if codeOf out t = 0 then expand (grow out t) (l ++ m) else (codeOf out t, [])) = _
    by_cases h : codeOf out t = 0
    · have e : expand out (t :: l) = expand (grow out t) l := if_pos h
      rw [if_pos h, e]
      exact expand_append l m _
    · have e : expand out (t :: l) = (codeOf out t, []) := if_neg h
      rw [if_neg h, e, if_neg h]
theorem expand_lits : ∀ (b out : List UInt8), out.length + b.length ≤ 65536 → expand out (b.map litT) = (0, out ++ b)
  | [], out, _ => by simp [expand]
  | c :: b, out, h => by
    simp only [List.length_cons] at h
    have hr : rightB (litT c) = true := rfl
    rw [List.map_cons, expand_0]
    · have e : grow out (litT c) = out ++ [c] := if_pos rfl
      rw [e, expand_lits b _ (by simp; omega)]
      simp
    · rw [hr]
      show ¬ (true = false ∨ (out.length : Int) < 0)
      simp
    · show ¬ 65536 < (out.length : Int) + 1
      omega
theorem size_lits : ∀ b : List UInt8, sizeT (b.map litT) = b.length
  | [] => rfl
  | c :: b => by
    have e : oneT (litT c) = 1 := rfl
    simp only [List.map_cons, sizeT, e, size_lits b, List.length_cons]
    omega
theorem reads_flat {w : World} {A : Option Addr} {l : List Tok} (h : ReadsT w A l) {ad : Addr} (hA : A = some ad) : ∀ j u, (flatT l)[j]? = some u → w.cell? (ad.add j) = some u := by
  intro j u hj
  have hlt := (List.getElem?_eq_some_iff.1 hj).1
  rw [flatT_length] at hlt
  have hj3 : j = j / 3 * 3 + j % 3 := by omega
  have hr : j % 3 < 3 := Nat.mod_lt _ (by decide)
  have hk : j / 3 < l.length := by omega
  generalize j / 3 = k at hj3 hk
  generalize j % 3 = r at hj3 hr
  subst hj3
  obtain ⟨ad', e, c0, c1, c2, _⟩ := h.2 k hk
  rw [hA] at e
  cases e
  have hf := flatT_at l k r hk hr
  rw [hj] at hf
  match r, hr with
  | 0, _ => simp [tokV] at hf; rw [hf]; exact c0
  | 1, _ => simp [tokV] at hf; rw [hf, add_one']; exact c1
  | 2, _ => simp [tokV] at hf; rw [hf, add_two']; exact c2
/-- append([]Token{}, l...) -/
theorem wpList_append_toks {w : World} {ops : Array Oper} {rest : List Oper} {o : Oper} {a : Act} {Q : Exit → Act → World → Prop} (hgd : o.guard = none) (s x : Operand)
    (ho : o.op = .call { callee := .builtin .append, args := #[s, x], argTypes := #[24, 24] })
    (base : Nat) (v : Value) (hs : a.eval s = v) (hown : w.ownsRow base 33 3 v 0 [])
    (A : Option Addr) (l : List Tok) (c : Nat) (hx : a.eval x = .slice A l.length c) (hA : A = none → c = 0) (hB : ReadsT w A l)
    (hl : l.length ≤ 5000000) (hbase : base ≤ w.heap.size)
    (h : ∀ v' w', w'.ownsRow base 33 3 v' l.length (flatT l) → w.grownBy w' v.ownBlock → wpList Try.prog ops Q rest (a.put o.dst v') w') : wpList Try.prog ops Q (o :: rest) a w := by
  obtain ⟨i0, hi, hz0, hz1, hz2⟩ := info_parts info33
  cases A with
  | none =>
    have hl : l = [] := by
      cases l with
      | nil => rfl
      | cons y l => obtain ⟨ad, e, _⟩ := hB.2 0 (by simp); cases e
    subst hl
    obtain rfl := hA rfl
    refine wpList_append_own_none hgd s x 24 ho base 33 i0 3 Try.underlying24 hi v _ _ hs hown hx ?_
    exact h v w hown ⟨rfl, rfl, rfl, Nat.le_refl _, fun _ _ _ => rfl⟩
  | some ad =>
    refine wpList_append_own _ hgd s x 24 ho base 33 i0 _ 3 24 Try.underlying24 hi hz0 hz1 hz2 rfl (by decide) v 0 [] hs hown ad l.length c (flatT l) hx (flatT_length l) (reads_flat hB rfl) ?_ (by unfold maxLen; omega) (by omega) hbase ?_
    · intro u hu
      simp only [flatT, List.mem_flatMap] at hu
      obtain ⟨t, _, ht⟩ := hu
      simp [tokV] at ht
      rcases ht with rfl | rfl | rfl <;> rfl
    · intro v' w' h1 h2 _
      exact h v' w' (by simpa using h1) h2
set_option maxHeartbeats 1000000 in
set_option maxRecDepth 100000 in
theorem joins_no (A B : Option Addr) (c d n : Nat) (l : List Tok) (w : World) (hl : ReadsT w A l) (hn : n ≤ 9223372036854775807) (h : 200 < l.length ∨ 200 < n ∨ 32768 < sizeT l) :
    Calls Try.prog 8 #[.slice A l.length c, .slice B n d] w fun e w' => e = .returned (.bool true) ∧ Below w.heap.size w w' := by
  have hll := hl.1
  have HL := hid hl
  clear hl
  by_cases h1 : 200 < l.length
  · have t1 : decide ((200 : Int) < (l.length : Int)) = true := by simp; omega
    clear h
    go_enter Try.func8, Try.ntmps8
    go_wp2_with fail
    refine (awake_any w).mono ?_
    rintro e w1 ⟨rfl, b1⟩
    have B1 := hid b1
    clear b1
    go_wp2
    go_ret
    exact ⟨rfl, B1.out⟩
  · have t1 : decide ((200 : Int) < (l.length : Int)) = false := by simp; omega
    by_cases h2 : 200 < n
    · have t2 : decide ((200 : Int) < (n : Int)) = true := by simp; omega
      clear h
      go_enter Try.func8, Try.ntmps8
      go_wp2_with fail
      refine (awake_any w).mono ?_
      rintro e w1 ⟨rfl, b1⟩
      have B1 := hid b1
      clear b1
      go_wp2
      go_ret
      exact ⟨rfl, B1.out⟩
    · have t2 : decide ((200 : Int) < (n : Int)) = false := by simp; omega
      have h3 : 32768 < sizeT l := by omega
      have t3 : decide (32768 < sizeT l) = true := by simpa using h3
      clear h
      go_enter Try.func8, Try.ntmps8
      go_wp2_with fail
      refine (size_any A c l w HL.out (by omega)).mono ?_
      rintro e w1 ⟨rfl, b1⟩
      have B1 := hid b1
      clear b1
      go_wp2_with fail
      refine (awake_any w1).mono ?_
      rintro e w2 ⟨rfl, b2⟩
      have B2 := hid b2
      clear b2
      go_wp2
      go_ret
      exact ⟨rfl, below_trans B1.out B2.out⟩
set_option maxHeartbeats 2000000 in
set_option maxRecDepth 100000 in
theorem joins_yes (A B : Option Addr) (c d : Nat) (l : List Tok) (b : List UInt8) (w : World) (hl : ReadsT w A l) (hA : A = none → c = 0) (hb : Reads w B (bytesV b)) (h1 : l.length ≤ 200) (h2 : b.length ≤ 200) (h3 : sizeT l ≤ 32768) :
    Calls Try.prog 8 #[.slice A l.length c, .slice B b.length d] w fun e w' => e = .returned (.bool true) ∧ Below w.heap.size w w' := by
  have HL := hid hl
  have HB := hid hb
  have HA := hid hA
  have hwf : Hid (∀ t ∈ l, t.wf) := hid (fun t ht => by
    obtain ⟨i, hi, rfl⟩ := List.mem_iff_getElem.1 ht
    obtain ⟨_, _, _, _, _, hw⟩ := hl.2 i hi
    exact hw)
  have t1 : decide ((200 : Int) < (l.length : Int)) = false := by simp; omega
  have t2 : decide ((200 : Int) < (b.length : Int)) = false := by simp; omega
  have t3 : decide (32768 < sizeT l) = false := by simp; omega
  have hs0 := (sizeT_bd l).1
  clear hl hb hA
  go_enter Try.func8, Try.ntmps8
  go_wp2_with fail
  refine (size_any A c l w HL.out (by omega)).mono ?_
  rintro e w1 ⟨rfl, b1⟩
  have B1 := hid b1
  clear b1
  go_wp2_with fail
  refine (expand_any A c l w1 (HL.out.below B1.out)).mono ?_
  rintro e w2 ⟨A2, c2, rfl, hr2, hz2, b2⟩
  have HX := hid hr2
  have B2 := hid (below_trans B1.out b2)
  clear hr2 hz2 b2
  obtain ⟨⟨cd, out⟩, hcd⟩ : ∃ r, expand [] l = r := ⟨_, rfl⟩
  have HCD := hid hcd
  rw [hcd] at HX ⊢
  simp only at HX ⊢
  clear hcd
  go_wp2_with (at_builtin; refine wpList_append_toks rfl (.tmp 31) (.tmp 32) rfl w2.heap.size _ rfl (World.ownsRow_made w2 #[] 0 (Nat.le_refl _) (by decide) rfl) A l c rfl HA.out ((HL.out.below B2.out).below (below_new _ _)) ?c1 ?c2 ?_)
  case c1 => omega
  case c2 => simp
  intro v3 w3 o3 g3
  have o4 := hid o3
  have BB3 := hid ((below_new w2 (.cells #[] 33)).grown g3 (by simp) (by intro k hk; simp [Value.ownBlock] at hk; omega))
  clear o3 g3
  obtain ⟨N, hN⟩ : ∃ N, w2.heap.size = N := ⟨_, rfl⟩
  have HN := hid hN
  rw [hN] at o4 BB3
  clear hN
  have hbl : b.length ≤ 9223372036854775807 := by omega
  go_wp2
  go_loopw [7, 36] (fun v i wr => ∃ (k : Nat) (ts : List Tok), k ≤ b.length ∧ i = .int .i64 k ∧ Hid (l ++ (b.take k).map litT = ts) ∧ Hid (wr.ownsRow N 33 3 v ts.length (flatT ts)) ∧ Hid (Below N w2 wr)) (fun _ i _ => b.length - (intOf i).toNat)
  case atStart => exact ⟨0, l, Nat.zero_le _, rfl, hid (by simp), o4, BB3⟩
  case round =>
    obtain ⟨k, ts, hk, rfl, HT, HO, HBL⟩ := hrel
    have HNs : Hid (N ≤ wr.heap.size) := hid (by have := HBL.out.size; rw [HN.out] at this; exact this)
    by_cases hlt : k < b.length
    · have dl : decide (k < b.length) = true := by simpa using hlt
      obtain ⟨ad, rfl, hcell⟩ := ((HB.out.below B2.out).below (by rw [HN.out]; exact HBL.out)).2 k (by simpa [bytesV] using hlt)
      have hcell2 : wr.cell? (ad.add k) = some (.int .u8 (b[k]).toNat) := by simpa [bytesV] using hcell
      have hsn := take_snoc hlt
      obtain ⟨y, hy⟩ : ∃ y, b[k] = y := ⟨_, rfl⟩
      rw [hy] at hcell2 hsn
      have HSN : Hid (l ++ (b.take (k + 1)).map litT = ts ++ [litT y]) := hid (by rw [hsn, ← HT.out]; simp)
      have HTL : Hid (ts.length ≤ 5000000) := hid (by rw [← HT.out]; simp; omega)
      clear hcell hsn hy
      go_wp2_with (at_builtin; refine wpList_append_tok rfl (.tmp 40) (.tmp 43) 24 33 rfl Try.underlying24 info33 N _ ts rfl (HO.out.alloc _) wr.heap.size (litT y) rfl ?e0 ?e1 ?e2 ?e3 ?e4 ?_)
      case e0 => exact (cell_newG _ _ _ 0 rfl).trans rfl
      case e1 => exact (cell_newG _ _ _ 1 rfl).trans rfl
      case e2 => exact (cell_newG _ _ _ 2 rfl).trans rfl
      case e3 => exact HTL.out
      case e4 => have := HNs.out; simp; omega
      intro v5 w5 o5 g5
      have O5 := hid o5
      have tg := Touch.grown g5
      have HB5 : Hid (Below N w2 w5) := hid (Touch.below (HBL.out.alloc HNs.out (.cells #[.int .u8 y.toNat, .int .i64 0, .int .i64 0] 33)) (by have := HNs.out; simp; omega) tg (fun q hq => (own_block_lt HO.out (by simpa using hq)).1))
      clear o5 g5 tg hcell2
      go_wp2
      go_roundw
      case rel => exact ⟨k + 1, ts ++ [litT y], by omega, by go_num, HSN, hid (by rw [List.length_append]; exact O5.out), HB5⟩
      case measure => simp [intOf]; omega
    · have hk2 : b.take k = b := List.take_of_length_le (by omega)
      have hts := HT.out
      rw [hk2] at hts
      have dl : decide (k < b.length) = false := by simpa using hlt
      have htl : ts.length ≤ 1000000 := by rw [← hts]; simp; omega
      have hwf2 : ∀ t ∈ ts, t.wf := by
        intro t ht
        rw [← hts] at ht
        rcases List.mem_append.1 ht with ht | ht
        · exact hwf.out t ht
        · obtain ⟨y, _, rfl⟩ := List.mem_map.1 ht
          unfold litT Tok.wf
          simp only
          omega
      obtain ⟨A3, c3, rfl, hr3, hz3, _⟩ := own_readsT HO.out (by omega) hwf2
      have hex := expand_append l (b.map litT) []
      rw [hts, HCD.out] at hex
      have hsz : sizeT ts = sizeT l + b.length := by rw [← hts, sizeT_append, size_lits]
      have HEX := hid hex
      have HSZ := hid hsz
      have HR3 := hid hr3
      have BW := hid (below_trans B2.out (show Below w2.heap.size w2 wr by rw [HN.out]; exact HBL.out))
      clear hk2 hts hwf2 hr3 hz3 hex hsz
      go_wp2_with fail
      refine (expand_any A3 c3 ts wr HR3.out).mono ?_
      rintro e w6 ⟨A6, c6, rfl, hr6, hz6, b6⟩
      have B6 := hid (below_trans BW.out b6)
      have BS := hid b6
      clear hz6 b6
      by_cases h0 : cd = 0
      · subst h0
        have hlen := expand_len l [] out HCD.out
        have hb2 : expand out (b.map litT) = (0, out ++ b) := expand_lits b out (by simp at hlen; omega)
        have hx := HEX.out
        simp only [if_true] at hx
        rw [hb2] at hx
        obtain ⟨o2, ho2⟩ : ∃ o, out ++ b = o := ⟨_, rfl⟩
        rw [ho2] at hx
        rw [hx] at hr6 ⊢
        simp only at hr6 ⊢
        have hto : ((⟨out.toArray⟩ : ByteArray) ++ ⟨b.toArray⟩).toList = o2 := by rw [ByteArray.toList_eq, ByteArray.data_append, ← ho2]; simp
        have hol : out.length ≤ 32768 := by simp at hlen; omega
        have hsz1 : ¬ (9223372036854775807 < (⟨out.toArray⟩ : ByteArray).size + (⟨b.toArray⟩ : ByteArray).size) := by show ¬ (9223372036854775807 < out.toArray.size + b.toArray.size); simp; omega
        have hsz2 : ¬ (9223372036854775807 < out.length + b.length) := by omega
        clear hx hb2 hlen ho2
        have x1 := conv_bytes (c := c6) hr6
        have x2 := conv_bytes (c := c2) ((HX.out.below (show Below w2.heap.size w2 wr by rw [HN.out]; exact HBL.out)).below BS.out)
        have x3 := conv_bytes (c := d) (HB.out.below B6.out)
        clear hr6
        go_wp2_with fail
        have HR6 := hid (HR3.out.below BS.out)
        refine (size_any A3 c3 ts w6 HR6.out (by omega)).mono ?_
        rintro e w7 ⟨rfl, b7⟩
        rw [HSZ.out]
        have hs1 : sizeT l ≤ 32768 := by simpa using t3
        have B7 := hid (below_trans B6.out b7)
        clear b7 x1 x2 x3 hto
        go_wp2_with fail
        refine (size_any A c l w7 (HL.out.below B7.out) (by omega)).mono ?_
        rintro e w8 ⟨rfl, b8⟩
        have B8 := hid (below_trans B7.out b8)
        clear b8
        go_wp2_with fail
        refine (awake_any w8).mono ?_
        rintro e w9 ⟨rfl, b9⟩
        have B9 := hid b9
        clear b9
        go_wp2
        go_ret
        exact ⟨rfl, below_trans B8.out B9.out⟩
      · have hx := HEX.out
        simp only [h0, if_false] at hx
        rw [hx]
        simp only
        have d0 : ((cd : Int) == 0) = false := by simp; omega
        have d0' : ((cd : Int) != 0) = true := by simp; omega
        clear hr6 hx
        go_wp2_with fail
        refine (awake_any w6).mono ?_
        rintro e w9 ⟨rfl, b9⟩
        have B9 := hid b9
        clear b9
        go_wp2
        go_ret
        exact ⟨rfl, below_trans B6.out B9.out⟩
theorem joins_any (A B : Option Addr) (c d : Nat) (l : List Tok) (b : List UInt8) (w : World) (hl : ReadsT w A l) (hA : A = none → c = 0) (_ : l.length ≤ c) (hb : Reads w B (bytesV b)) (_ : B = none → d = 0) (_ : b.length ≤ d) :
    Calls Try.prog 8 #[.slice A l.length c, .slice B b.length d] w fun e w' => e = .returned (.bool true) ∧ Below w.heap.size w w' := by
  by_cases h : l.length ≤ 200 ∧ b.length ≤ 200 ∧ sizeT l ≤ 32768
  · exact joins_yes A B c d l b w hl hA hb h.1 h.2.1 h.2.2
  · exact joins_no A B c d _ l w hl (by have := hb.1; simpa [bytesV] using this) (by omega)
end Go.Proofs.Ytaoodggdopdkeaa
