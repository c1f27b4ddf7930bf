/- Len, Safe, Room, Early, Sync, size, put, Append, Mark of a tape. -/
import Derived.Test.YthieemfcmehdiaaBase
import Derived.BigRegion
import Derived.Deep.RegionWith
import Derived.Deep.RegionLaw
namespace Go.Proofs.Ythieemfcmehdiaa
open Go.RowKit
section
variable {w : World} {T cap safe c : Nat} {xs : List Thing} {A : Option Addr}
set_option maxRecDepth 100000 in
theorem len_any (h : IsTape w T cap xs safe A c) : Calls Try.prog 18 #[.pointer (some ⟨T, 0, none⟩)] w fun e w' => e = .returned (.int .i64 xs.length) ∧ w' = w := by
  have c1 := h.c1
  clear h
  go_enter Try.func18, Try.ntmps18
  go_wp2
  go_ret
  exact ⟨rfl, rfl⟩
set_option maxRecDepth 100000 in
theorem safe_any (h : IsTape w T cap xs safe A c) : Calls Try.prog 15 #[.pointer (some ⟨T, 0, none⟩)] w fun e w' => e = .returned (.int .i64 safe) ∧ w' = w := by
  have c2 := h.c2
  clear h
  go_enter Try.func15, Try.ntmps15
  go_wp2
  go_ret
  exact ⟨rfl, rfl⟩
set_option maxRecDepth 100000 in
theorem room_any (h : IsTape w T cap xs safe A c) : Calls Try.prog 16 #[.pointer (some ⟨T, 0, none⟩)] w fun e w' => e = .returned (.int .i64 ((cap : Int) - used xs)) ∧ ∃ m, w' = w.drewN m := by
  have c0 := h.c0
  have c3 := h.c3
  have hs := h.small
  have hf := h.fits
  clear h
  obtain ⟨u, hu⟩ : ∃ u, used xs = u := ⟨_, rfl⟩
  rw [hu] at c3 hf ⊢
  clear hu
  have w1 : IntKind.i64.wrap ((cap : Int) - u) = (cap : Int) - u := IntWalk.i64_in _ (by omega)
  go_enter Try.func16, Try.ntmps16
  go_wp2
  go_quiet (fail)
  go_wp2
  go_ret
  exact ⟨rfl, _, rfl⟩
set_option maxRecDepth 100000 in
theorem early_any (h : IsTape w T cap xs safe A c) : Calls Try.prog 19 #[.pointer (some ⟨T, 0, none⟩)] w fun e w' => e = .returned (.bool (decide (8 * ((cap : Int) - used xs) < cap))) ∧ ∃ m, w' = w.drewN m := by
  have c0 := h.c0
  have hs := h.small
  have hf := h.fits
  have H := hid h
  have HR : ∀ k, Calls Try.prog 16 #[.pointer (some ⟨T, 0, none⟩)] (w.drewN k) fun e w' => e = .returned (.int .i64 ((cap : Int) - used xs)) ∧ ∃ m, w' = w.drewN m := fun k =>
    (room_any (w := w.drewN k) ⟨H.out.blk, H.out.items, H.out.nil, H.out.fits, H.out.small, H.out.safe, H.out.room⟩).mono fun e w' q => ⟨q.1, by obtain ⟨md, hmd⟩ := q.2; exact ⟨k + md, by rw [hmd, World.drewN_drewN]⟩⟩
  have HR' := hid HR
  clear h HR
  obtain ⟨u, hu⟩ : ∃ u, used xs = u := ⟨_, rfl⟩
  rw [hu] at hf HR' ⊢
  clear hu
  obtain ⟨r, hr⟩ : ∃ r, (cap : Int) - u = r := ⟨_, rfl⟩
  have hr2 : 0 ≤ r ∧ r ≤ 16777216 := by omega
  rw [hr] at HR' ⊢
  clear hr
  go_enter Try.func19, Try.ntmps19
  go_wp2
  go_quiet (exact HR'.out _)
  go_wp2
  go_ret
  exact ⟨rfl, _, rfl⟩
set_option maxRecDepth 100000 in
theorem sync_any (h : IsTape w T cap xs safe A c) : Calls Try.prog 21 #[.pointer (some ⟨T, 0, none⟩)] w fun e w' => (∃ v, e = .returned v) ∧ w' = w.setCell ⟨T, 2, none⟩ (.int .i64 xs.length) := by
  have c1 := h.c1
  have c2 := h.c2
  have f2 := h.fr 2
  clear h
  go_enter Try.func21, Try.ntmps21
  go_wp2
  go_end0
  exact ⟨⟨_, rfl⟩, rfl⟩
theorem rest_set (w : World) (T j : Nat) (v : Value) : Rest T w (w.setCell ⟨T, j, none⟩ v) := fun _ _ hb => Below.heap_setCell _ _ _ _ hb
theorem IsTape.synced (h : IsTape w T cap xs safe A c) : IsTape (w.setCell ⟨T, 2, none⟩ (.int .i64 xs.length)) T cap xs xs.length A c :=
  ⟨by rw [heap_setCell_same w T 2 _ 58 _ h.blk]; simp, h.items.keep (rest_set _ _ _ _), h.nil, h.fits, h.small, Nat.le_refl _, h.room⟩
end
set_option maxRecDepth 100000 in
theorem size_any (b : Bool) (B : Option Addr) (n k : Nat) (w : World) (hn : n ≤ 20000000) : Calls Try.prog 34 #[.agg #[.bool b, .slice B n k]] w fun e w' => e = .returned (.int .i64 ((8 : Int) + n)) ∧ w' = w.alloc (.cells #[.bool b, .slice B n k] 44) := by
  have w1 : IntKind.i64.wrap ((8 : Int) + n) = (8 : Int) + n := IntWalk.i64_in _ (by omega)
  go_enter Try.func34, Try.ntmps34
  go_wp2
  go_ret
  exact ⟨rfl, rfl⟩
end Go.Proofs.Ythieemfcmehdiaa
