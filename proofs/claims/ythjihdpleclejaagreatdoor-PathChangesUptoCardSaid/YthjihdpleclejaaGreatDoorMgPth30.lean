/-
  Walk: Add's closure. No condition.
-/
import Derived.Test.YthjihdpleclejaaGreatDoorMgPth28
import Derived.Laws.Externs
namespace Go.Proofs.YthjihdpleclejaaGreatDoor
open Go.RowKit Go.Proofs
theorem add64_run (x y : Int) (hx : 0 ≤ x) (hy : 0 ≤ y) (w : World) : (callFunc 40 #[.int .u64 x, .int .u64 y, .int .u64 0]).run Tryz.prog w = .ok (.value (.tuple #[.int .u64 ((x + y) % 18446744073709551616), .int .u64 ((x + y) / 18446744073709551616)])) w := by
 rw [run_callFunc_extern Tryz.func40 (by kernel_rfl) (by kernel_rfl) (by kernel_rfl) (e := add64Entry) (by kernel_rfl), run_add64 x y 0 hx hy (by omega) (by omega)]
 simp only [Result.andThen, Int.add_zero]
theorem wrap_sum {a b : Int} (ha : -9223372036854775808 ≤ a ∧ a ≤ 9223372036854775807) (hb : -9223372036854775808 ≤ b ∧ b ≤ 9223372036854775807) : IntKind.i64.wrap ((IntKind.u64.wrap a + IntKind.u64.wrap b) % 18446744073709551616) = if a + b < -9223372036854775808 then a + b + 18446744073709551616 else if 9223372036854775807 < a + b then a + b - 18446744073709551616 else a + b := by
 rw [IntKind.wrap_u64, IntKind.wrap_u64, IntKind.wrap_i64]
 split
 ·omega
 ·split
  ·omega
  ·omega
theorem toAdd_kind {n : Int} {y : PVal} (h : y.k ≠ 3) : toAdd n y = ⟨zeroP, false, 7⟩ := by unfold toAdd; rw [if_pos h]
theorem toAdd_far {n : Int} {y : PVal} (h : y.k = 3) (hr : y.n + n < -9223372036854775808 ∨ 9223372036854775807 < y.n + n) : toAdd n y = ⟨zeroP, false, 12⟩ := by unfold toAdd; rw [if_neg (by simp [h]), if_pos hr]
theorem toAdd_sum {n : Int} {y : PVal} (h : y.k = 3) (hr : ¬ (y.n + n < -9223372036854775808 ∨ 9223372036854775807 < y.n + n)) : toAdd n y = ⟨intV (y.n + n), false, 0⟩ := by unfold toAdd; rw [if_neg (by simp [h]), if_neg hr]
set_option maxRecDepth 100000 in
set_option maxHeartbeats 8000000 in
theorem add1_calls {S : Nat → Prop} {w : World} {y : PVal} {n : Int} {b : Bool} {bx : Nat} {cs : List Value} (hn : -9223372036854775808 ≤ n ∧ n ≤ 9223372036854775807) (hy : Rd w S y cs) (hb : w.heap[bx]? = some (.cells #[.int .i64 n] 2 (0, 0))) :
  Calls Tryz.prog 39 #[.agg cs.toArray, .bool b, .pointer (some ⟨bx, 0, none⟩)] w (Told S (toAdd n y) w) := by
 unfold Told
 obtain ⟨k, yn, str, l, fn, fv⟩ := y
 obtain ⟨la, lc, fa, fc, rfl, _, hyn, _⟩ := hy.inv
 clear hy
 obtain ⟨TR, hTR⟩ : ∃ R, R = toAdd n (.mk k yn str l fn fv) := ⟨_, rfl⟩
 rw [← hTR]
 have hws := wrap_sum hyn hn
 have ha0 : 0 ≤ IntKind.u64.wrap yn := by rw [IntKind.wrap_u64]; omega
 have hb0 : 0 ≤ IntKind.u64.wrap n := by rw [IntKind.wrap_u64]; omega
 obtain ⟨a, ha⟩ : ∃ a, a = IntKind.u64.wrap yn := ⟨_, rfl⟩
 obtain ⟨b2, hb2⟩ : ∃ a, a = IntKind.u64.wrap n := ⟨_, rfl⟩
 rw [← ha] at hws ha0
 rw [← hb2] at hws hb0
 obtain ⟨s0, hs0⟩ : ∃ s, s = IntKind.i64.wrap ((a + b2) % 18446744073709551616) := ⟨_, rfl⟩
 rw [← hs0] at hws
 have hw1 := ha.symm
 have hw2 := hb2.symm
 have hw3 := hs0.symm
 have had := add64_run a b2 ha0 hb0
 have h7 : Hid (k ≠ 3 → TR = ⟨zeroP, false, 7⟩) := fun h => by rw [hTR]; exact toAdd_kind h
 have hov : Hid (k = 3 → (yn < 0 ∧ n < 0 ∧ ¬ s0 < 0 ∨ ¬ yn < 0 ∧ ¬ n < 0 ∧ s0 < 0) → TR = ⟨zeroP, false, 12⟩) := fun h hs => by
  rw [hTR]
  refine toAdd_far h ?_
  show yn + n < _ ∨ _ < yn + n
  split at hws
  ·omega
  ·split at hws <;> omega
 have hok : Hid (k = 3 → ¬ (yn < 0 ∧ n < 0 ∧ ¬ s0 < 0 ∨ ¬ yn < 0 ∧ ¬ n < 0 ∧ s0 < 0) → TR = ⟨intV s0, false, 0⟩) := fun h hs => by
  have hr : ¬ (yn + n < -9223372036854775808 ∨ 9223372036854775807 < yn + n) := by
   split at hws
   ·omega
   ·split at hws <;> omega
  rw [hTR, hws, if_neg (by omega), if_neg (by omega)]
  exact toAdd_sum h hr
 have hs0r : -9223372036854775808 ≤ s0 ∧ s0 ≤ 9223372036854775807 := by
  split at hws
  ·omega
  ·split at hws <;> omega
 clear ha hb2 hs0 hTR hws hb0 ha0
 obtain ⟨W0, hW0⟩ : ∃ W0, W0 = (w.alloc (.cells #[.int .i64 k, .int .i64 yn, .string str, .slice la l.length lc, .slice fa fv.length fc] 25)).alloc (.cells #[.int .i64 0, .int .i64 0, .string ⟨#[]⟩, .slice none 0 0, .slice none 0 0] 25) := ⟨_, rfl⟩
 have D : Hid (Below w.heap.size w W0) := by show Below _ _ _; rw [hW0]; exact (below_new _ _).step (below_new _ _)
 have r3 : Hid (W0.heap[w.heap.size]? = some (.cells #[.int .i64 k, .int .i64 yn, .string str, .slice la l.length lc, .slice fa fv.length fc] 25 (0, 0))) := by show _ = _; rw [hW0]; exact al_old (al_at rfl)
 have r5 : Hid (W0.heap[w.heap.size + 1]? = some (.cells #[.int .i64 0, .int .i64 0, .string ⟨#[]⟩, .slice none 0 0, .slice none 0 0] 25 (0, 0))) := by show _ = _; rw [hW0]; exact al_at (by simp)
 have rx : Hid (W0.heap[bx]? = some (.cells #[.int .i64 n] 2 (0, 0))) := (D.out.block _ (lt_of_block hb)).trans hb
 go_enter Tryz.func39, Tryz.ntmps39
 go_upto_region 1 with fail
 rw [← hW0]
 clear hW0 hb
 have b0 := box_at (j := 0) r3.out rfl
 have b1 := box_at (j := 1) r3.out rfl
 have x0 := box_at (j := 0) rx.out rfl
 have c0 := box_at (j := 0) r5.out rfl
 have c1 := box_at (j := 1) r5.out rfl
 have c2 := box_at (j := 2) r5.out rfl
 have c3 := box_at (j := 3) r5.out rfl
 have c4 := box_at (j := 4) r5.out rfl
 have f0 := box_free r5.out
 by_cases hk : k = 3
 ·have hki : (k != 3) = false := by simp [hk]
  have hov2 := hid (hov.out hk)
  have hok2 := hid (hok.out hk)
  clear hk h7 hov hok
  by_cases h1 : yn < 0
  ·by_cases h2 : n < 0
   ·by_cases h3 : s0 < 0
    ·have hR := hok2.out (by omega)
     subst hR
     clear hov2 hok2
     go_wp2_with fail
     clear b0 b1 x0
     clear c0 c1 c2 c3 c4
     clear f0
     have hbz := hid (set5_below D.out (Nat.le_succ _) (.int .i64 3) (.int .i64 s0) (.string ⟨#[]⟩) (.slice none 0 0) (.slice none 0 0))
     have rz := hid (set5_box (u0 := .int .i64 3) (u1 := .int .i64 s0) (u2 := .string ⟨#[]⟩) (u3 := .slice none 0 0) (u4 := .slice none 0 0) r5.out)
     have hkp := hid (fun b (hb : b ≠ w.heap.size + 1) => set5_other W0 (w.heap.size + 1) (.int .i64 3) (.int .i64 s0) (.string ⟨#[]⟩) (.slice none 0 0) (.slice none 0 0) (b := b) hb)
     have hsz9 := hid (set5_size W0 (w.heap.size + 1) (.int .i64 3) (.int .i64 s0) (.string ⟨#[]⟩) (.slice none 0 0) (.slice none 0 0))
     unfold set5 at hbz rz hkp hsz9
     generalize ((((W0.setCell ⟨w.heap.size + 1, 0, none⟩ (.int .i64 3)).setCell ⟨w.heap.size + 1, 1, none⟩ (.int .i64 s0)).setCell ⟨w.heap.size + 1, 2, none⟩ (.string ⟨#[]⟩)).setCell ⟨w.heap.size + 1, 3, none⟩ (.slice none 0 0)).setCell ⟨w.heap.size + 1, 4, none⟩ (.slice none 0 0) = w9 at *
     have z0 := box_at (j := 0) rz.out rfl
     have z1 := box_at (j := 1) rz.out rfl
     have z2 := box_at (j := 2) rz.out rfl
     have z3 := box_at (j := 3) rz.out rfl
     have z4 := box_at (j := 4) rz.out rfl
     refine ⟨rfl, _, by simp [results, Tryz.results39, go_sem, z0, z1, z2, z3, z4] <;> exact ⟨rfl, rfl⟩, [.int .i64 3, .int .i64 s0, .string ⟨#[]⟩, .slice none 0 0, .slice none 0 0], rfl, hbz.out, ?_⟩
     exact rd_flat _ _ (k := 3) (n := s0) (s := ByteArray.empty) ⟨by decide, by decide⟩ hs0r (by decide)
    ·have hR := hov2.out (by omega)
     subst hR
     clear hov2 hok2
     go_wp2_with fail
     clear b0 b1 x0
     clear c0 c1 c2 c3 c4
     clear f0
     have hbz := hid (set5_below D.out (Nat.le_succ _) (.int .i64 0) (.int .i64 0) (.string ⟨#[]⟩) (.slice none 0 0) (.slice none 0 0))
     have rz := hid (set5_box (u0 := .int .i64 0) (u1 := .int .i64 0) (u2 := .string ⟨#[]⟩) (u3 := .slice none 0 0) (u4 := .slice none 0 0) r5.out)
     have hkp := hid (fun b (hb : b ≠ w.heap.size + 1) => set5_other W0 (w.heap.size + 1) (.int .i64 0) (.int .i64 0) (.string ⟨#[]⟩) (.slice none 0 0) (.slice none 0 0) (b := b) hb)
     have hsz9 := hid (set5_size W0 (w.heap.size + 1) (.int .i64 0) (.int .i64 0) (.string ⟨#[]⟩) (.slice none 0 0) (.slice none 0 0))
     unfold set5 at hbz rz hkp hsz9
     generalize ((((W0.setCell ⟨w.heap.size + 1, 0, none⟩ (.int .i64 0)).setCell ⟨w.heap.size + 1, 1, none⟩ (.int .i64 0)).setCell ⟨w.heap.size + 1, 2, none⟩ (.string ⟨#[]⟩)).setCell ⟨w.heap.size + 1, 3, none⟩ (.slice none 0 0)).setCell ⟨w.heap.size + 1, 4, none⟩ (.slice none 0 0) = w9 at *
     have z0 := box_at (j := 0) rz.out rfl
     have z1 := box_at (j := 1) rz.out rfl
     have z2 := box_at (j := 2) rz.out rfl
     have z3 := box_at (j := 3) rz.out rfl
     have z4 := box_at (j := 4) rz.out rfl
     refine ⟨rfl, _, by simp [results, Tryz.results39, go_sem, z0, z1, z2, z3, z4] <;> exact ⟨rfl, rfl⟩, [.int .i64 0, .int .i64 0, .string ⟨#[]⟩, .slice none 0 0, .slice none 0 0], rfl, hbz.out, ?_⟩
     exact rd_zeroP
   ·by_cases h3 : s0 < 0
    ·have hR := hok2.out (by omega)
     subst hR
     clear hov2 hok2
     go_wp2_with fail
     clear b0 b1 x0
     clear c0 c1 c2 c3 c4
     clear f0
     have hbz := hid (set5_below D.out (Nat.le_succ _) (.int .i64 3) (.int .i64 s0) (.string ⟨#[]⟩) (.slice none 0 0) (.slice none 0 0))
     have rz := hid (set5_box (u0 := .int .i64 3) (u1 := .int .i64 s0) (u2 := .string ⟨#[]⟩) (u3 := .slice none 0 0) (u4 := .slice none 0 0) r5.out)
     have hkp := hid (fun b (hb : b ≠ w.heap.size + 1) => set5_other W0 (w.heap.size + 1) (.int .i64 3) (.int .i64 s0) (.string ⟨#[]⟩) (.slice none 0 0) (.slice none 0 0) (b := b) hb)
     have hsz9 := hid (set5_size W0 (w.heap.size + 1) (.int .i64 3) (.int .i64 s0) (.string ⟨#[]⟩) (.slice none 0 0) (.slice none 0 0))
     unfold set5 at hbz rz hkp hsz9
     generalize ((((W0.setCell ⟨w.heap.size + 1, 0, none⟩ (.int .i64 3)).setCell ⟨w.heap.size + 1, 1, none⟩ (.int .i64 s0)).setCell ⟨w.heap.size + 1, 2, none⟩ (.string ⟨#[]⟩)).setCell ⟨w.heap.size + 1, 3, none⟩ (.slice none 0 0)).setCell ⟨w.heap.size + 1, 4, none⟩ (.slice none 0 0) = w9 at *
     have z0 := box_at (j := 0) rz.out rfl
     have z1 := box_at (j := 1) rz.out rfl
     have z2 := box_at (j := 2) rz.out rfl
     have z3 := box_at (j := 3) rz.out rfl
     have z4 := box_at (j := 4) rz.out rfl
     refine ⟨rfl, _, by simp [results, Tryz.results39, go_sem, z0, z1, z2, z3, z4] <;> exact ⟨rfl, rfl⟩, [.int .i64 3, .int .i64 s0, .string ⟨#[]⟩, .slice none 0 0, .slice none 0 0], rfl, hbz.out, ?_⟩
     exact rd_flat _ _ (k := 3) (n := s0) (s := ByteArray.empty) ⟨by decide, by decide⟩ hs0r (by decide)
    ·have hR := hok2.out (by omega)
     subst hR
     clear hov2 hok2
     go_wp2_with fail
     clear b0 b1 x0
     clear c0 c1 c2 c3 c4
     clear f0
     have hbz := hid (set5_below D.out (Nat.le_succ _) (.int .i64 3) (.int .i64 s0) (.string ⟨#[]⟩) (.slice none 0 0) (.slice none 0 0))
     have rz := hid (set5_box (u0 := .int .i64 3) (u1 := .int .i64 s0) (u2 := .string ⟨#[]⟩) (u3 := .slice none 0 0) (u4 := .slice none 0 0) r5.out)
     have hkp := hid (fun b (hb : b ≠ w.heap.size + 1) => set5_other W0 (w.heap.size + 1) (.int .i64 3) (.int .i64 s0) (.string ⟨#[]⟩) (.slice none 0 0) (.slice none 0 0) (b := b) hb)
     have hsz9 := hid (set5_size W0 (w.heap.size + 1) (.int .i64 3) (.int .i64 s0) (.string ⟨#[]⟩) (.slice none 0 0) (.slice none 0 0))
     unfold set5 at hbz rz hkp hsz9
     generalize ((((W0.setCell ⟨w.heap.size + 1, 0, none⟩ (.int .i64 3)).setCell ⟨w.heap.size + 1, 1, none⟩ (.int .i64 s0)).setCell ⟨w.heap.size + 1, 2, none⟩ (.string ⟨#[]⟩)).setCell ⟨w.heap.size + 1, 3, none⟩ (.slice none 0 0)).setCell ⟨w.heap.size + 1, 4, none⟩ (.slice none 0 0) = w9 at *
     have z0 := box_at (j := 0) rz.out rfl
     have z1 := box_at (j := 1) rz.out rfl
     have z2 := box_at (j := 2) rz.out rfl
     have z3 := box_at (j := 3) rz.out rfl
     have z4 := box_at (j := 4) rz.out rfl
     refine ⟨rfl, _, by simp [results, Tryz.results39, go_sem, z0, z1, z2, z3, z4] <;> exact ⟨rfl, rfl⟩, [.int .i64 3, .int .i64 s0, .string ⟨#[]⟩, .slice none 0 0, .slice none 0 0], rfl, hbz.out, ?_⟩
     exact rd_flat _ _ (k := 3) (n := s0) (s := ByteArray.empty) ⟨by decide, by decide⟩ hs0r (by decide)
  ·by_cases h2 : n < 0
   ·by_cases h3 : s0 < 0
    ·have hR := hok2.out (by omega)
     subst hR
     clear hov2 hok2
     go_wp2_with fail
     clear b0 b1 x0
     clear c0 c1 c2 c3 c4
     clear f0
     have hbz := hid (set5_below D.out (Nat.le_succ _) (.int .i64 3) (.int .i64 s0) (.string ⟨#[]⟩) (.slice none 0 0) (.slice none 0 0))
     have rz := hid (set5_box (u0 := .int .i64 3) (u1 := .int .i64 s0) (u2 := .string ⟨#[]⟩) (u3 := .slice none 0 0) (u4 := .slice none 0 0) r5.out)
     have hkp := hid (fun b (hb : b ≠ w.heap.size + 1) => set5_other W0 (w.heap.size + 1) (.int .i64 3) (.int .i64 s0) (.string ⟨#[]⟩) (.slice none 0 0) (.slice none 0 0) (b := b) hb)
     have hsz9 := hid (set5_size W0 (w.heap.size + 1) (.int .i64 3) (.int .i64 s0) (.string ⟨#[]⟩) (.slice none 0 0) (.slice none 0 0))
     unfold set5 at hbz rz hkp hsz9
     generalize ((((W0.setCell ⟨w.heap.size + 1, 0, none⟩ (.int .i64 3)).setCell ⟨w.heap.size + 1, 1, none⟩ (.int .i64 s0)).setCell ⟨w.heap.size + 1, 2, none⟩ (.string ⟨#[]⟩)).setCell ⟨w.heap.size + 1, 3, none⟩ (.slice none 0 0)).setCell ⟨w.heap.size + 1, 4, none⟩ (.slice none 0 0) = w9 at *
     have z0 := box_at (j := 0) rz.out rfl
     have z1 := box_at (j := 1) rz.out rfl
     have z2 := box_at (j := 2) rz.out rfl
     have z3 := box_at (j := 3) rz.out rfl
     have z4 := box_at (j := 4) rz.out rfl
     refine ⟨rfl, _, by simp [results, Tryz.results39, go_sem, z0, z1, z2, z3, z4] <;> exact ⟨rfl, rfl⟩, [.int .i64 3, .int .i64 s0, .string ⟨#[]⟩, .slice none 0 0, .slice none 0 0], rfl, hbz.out, ?_⟩
     exact rd_flat _ _ (k := 3) (n := s0) (s := ByteArray.empty) ⟨by decide, by decide⟩ hs0r (by decide)
    ·have hR := hok2.out (by omega)
     subst hR
     clear hov2 hok2
     go_wp2_with fail
     clear b0 b1 x0
     clear c0 c1 c2 c3 c4
     clear f0
     have hbz := hid (set5_below D.out (Nat.le_succ _) (.int .i64 3) (.int .i64 s0) (.string ⟨#[]⟩) (.slice none 0 0) (.slice none 0 0))
     have rz := hid (set5_box (u0 := .int .i64 3) (u1 := .int .i64 s0) (u2 := .string ⟨#[]⟩) (u3 := .slice none 0 0) (u4 := .slice none 0 0) r5.out)
     have hkp := hid (fun b (hb : b ≠ w.heap.size + 1) => set5_other W0 (w.heap.size + 1) (.int .i64 3) (.int .i64 s0) (.string ⟨#[]⟩) (.slice none 0 0) (.slice none 0 0) (b := b) hb)
     have hsz9 := hid (set5_size W0 (w.heap.size + 1) (.int .i64 3) (.int .i64 s0) (.string ⟨#[]⟩) (.slice none 0 0) (.slice none 0 0))
     unfold set5 at hbz rz hkp hsz9
     generalize ((((W0.setCell ⟨w.heap.size + 1, 0, none⟩ (.int .i64 3)).setCell ⟨w.heap.size + 1, 1, none⟩ (.int .i64 s0)).setCell ⟨w.heap.size + 1, 2, none⟩ (.string ⟨#[]⟩)).setCell ⟨w.heap.size + 1, 3, none⟩ (.slice none 0 0)).setCell ⟨w.heap.size + 1, 4, none⟩ (.slice none 0 0) = w9 at *
     have z0 := box_at (j := 0) rz.out rfl
     have z1 := box_at (j := 1) rz.out rfl
     have z2 := box_at (j := 2) rz.out rfl
     have z3 := box_at (j := 3) rz.out rfl
     have z4 := box_at (j := 4) rz.out rfl
     refine ⟨rfl, _, by simp [results, Tryz.results39, go_sem, z0, z1, z2, z3, z4] <;> exact ⟨rfl, rfl⟩, [.int .i64 3, .int .i64 s0, .string ⟨#[]⟩, .slice none 0 0, .slice none 0 0], rfl, hbz.out, ?_⟩
     exact rd_flat _ _ (k := 3) (n := s0) (s := ByteArray.empty) ⟨by decide, by decide⟩ hs0r (by decide)
   ·by_cases h3 : s0 < 0
    ·have hR := hov2.out (by omega)
     subst hR
     clear hov2 hok2
     go_wp2_with fail
     clear b0 b1 x0
     clear c0 c1 c2 c3 c4
     clear f0
     have hbz := hid (set5_below D.out (Nat.le_succ _) (.int .i64 0) (.int .i64 0) (.string ⟨#[]⟩) (.slice none 0 0) (.slice none 0 0))
     have rz := hid (set5_box (u0 := .int .i64 0) (u1 := .int .i64 0) (u2 := .string ⟨#[]⟩) (u3 := .slice none 0 0) (u4 := .slice none 0 0) r5.out)
     have hkp := hid (fun b (hb : b ≠ w.heap.size + 1) => set5_other W0 (w.heap.size + 1) (.int .i64 0) (.int .i64 0) (.string ⟨#[]⟩) (.slice none 0 0) (.slice none 0 0) (b := b) hb)
     have hsz9 := hid (set5_size W0 (w.heap.size + 1) (.int .i64 0) (.int .i64 0) (.string ⟨#[]⟩) (.slice none 0 0) (.slice none 0 0))
     unfold set5 at hbz rz hkp hsz9
     generalize ((((W0.setCell ⟨w.heap.size + 1, 0, none⟩ (.int .i64 0)).setCell ⟨w.heap.size + 1, 1, none⟩ (.int .i64 0)).setCell ⟨w.heap.size + 1, 2, none⟩ (.string ⟨#[]⟩)).setCell ⟨w.heap.size + 1, 3, none⟩ (.slice none 0 0)).setCell ⟨w.heap.size + 1, 4, none⟩ (.slice none 0 0) = w9 at *
     have z0 := box_at (j := 0) rz.out rfl
     have z1 := box_at (j := 1) rz.out rfl
     have z2 := box_at (j := 2) rz.out rfl
     have z3 := box_at (j := 3) rz.out rfl
     have z4 := box_at (j := 4) rz.out rfl
     refine ⟨rfl, _, by simp [results, Tryz.results39, go_sem, z0, z1, z2, z3, z4] <;> exact ⟨rfl, rfl⟩, [.int .i64 0, .int .i64 0, .string ⟨#[]⟩, .slice none 0 0, .slice none 0 0], rfl, hbz.out, ?_⟩
     exact rd_zeroP
    ·have hR := hok2.out (by omega)
     subst hR
     clear hov2 hok2
     go_wp2_with fail
     clear b0 b1 x0
     clear c0 c1 c2 c3 c4
     clear f0
     have hbz := hid (set5_below D.out (Nat.le_succ _) (.int .i64 3) (.int .i64 s0) (.string ⟨#[]⟩) (.slice none 0 0) (.slice none 0 0))
     have rz := hid (set5_box (u0 := .int .i64 3) (u1 := .int .i64 s0) (u2 := .string ⟨#[]⟩) (u3 := .slice none 0 0) (u4 := .slice none 0 0) r5.out)
     have hkp := hid (fun b (hb : b ≠ w.heap.size + 1) => set5_other W0 (w.heap.size + 1) (.int .i64 3) (.int .i64 s0) (.string ⟨#[]⟩) (.slice none 0 0) (.slice none 0 0) (b := b) hb)
     have hsz9 := hid (set5_size W0 (w.heap.size + 1) (.int .i64 3) (.int .i64 s0) (.string ⟨#[]⟩) (.slice none 0 0) (.slice none 0 0))
     unfold set5 at hbz rz hkp hsz9
     generalize ((((W0.setCell ⟨w.heap.size + 1, 0, none⟩ (.int .i64 3)).setCell ⟨w.heap.size + 1, 1, none⟩ (.int .i64 s0)).setCell ⟨w.heap.size + 1, 2, none⟩ (.string ⟨#[]⟩)).setCell ⟨w.heap.size + 1, 3, none⟩ (.slice none 0 0)).setCell ⟨w.heap.size + 1, 4, none⟩ (.slice none 0 0) = w9 at *
     have z0 := box_at (j := 0) rz.out rfl
     have z1 := box_at (j := 1) rz.out rfl
     have z2 := box_at (j := 2) rz.out rfl
     have z3 := box_at (j := 3) rz.out rfl
     have z4 := box_at (j := 4) rz.out rfl
     refine ⟨rfl, _, by simp [results, Tryz.results39, go_sem, z0, z1, z2, z3, z4] <;> exact ⟨rfl, rfl⟩, [.int .i64 3, .int .i64 s0, .string ⟨#[]⟩, .slice none 0 0, .slice none 0 0], rfl, hbz.out, ?_⟩
     exact rd_flat _ _ (k := 3) (n := s0) (s := ByteArray.empty) ⟨by decide, by decide⟩ hs0r (by decide)
 ·have hki : (k != 3) = true := by simp [hk]
  have hR := h7.out hk
  subst hR
  clear h7 hov hok hk
  go_wp2_with fail
  clear b0 b1 x0
  clear c0 c1 c2 c3 c4
  clear f0
  have hbz := hid (set5_below D.out (Nat.le_succ _) (.int .i64 0) (.int .i64 0) (.string ⟨#[]⟩) (.slice none 0 0) (.slice none 0 0))
  have rz := hid (set5_box (u0 := .int .i64 0) (u1 := .int .i64 0) (u2 := .string ⟨#[]⟩) (u3 := .slice none 0 0) (u4 := .slice none 0 0) r5.out)
  have hkp := hid (fun b (hb : b ≠ w.heap.size + 1) => set5_other W0 (w.heap.size + 1) (.int .i64 0) (.int .i64 0) (.string ⟨#[]⟩) (.slice none 0 0) (.slice none 0 0) (b := b) hb)
  have hsz9 := hid (set5_size W0 (w.heap.size + 1) (.int .i64 0) (.int .i64 0) (.string ⟨#[]⟩) (.slice none 0 0) (.slice none 0 0))
  unfold set5 at hbz rz hkp hsz9
  generalize ((((W0.setCell ⟨w.heap.size + 1, 0, none⟩ (.int .i64 0)).setCell ⟨w.heap.size + 1, 1, none⟩ (.int .i64 0)).setCell ⟨w.heap.size + 1, 2, none⟩ (.string ⟨#[]⟩)).setCell ⟨w.heap.size + 1, 3, none⟩ (.slice none 0 0)).setCell ⟨w.heap.size + 1, 4, none⟩ (.slice none 0 0) = w9 at *
  have z0 := box_at (j := 0) rz.out rfl
  have z1 := box_at (j := 1) rz.out rfl
  have z2 := box_at (j := 2) rz.out rfl
  have z3 := box_at (j := 3) rz.out rfl
  have z4 := box_at (j := 4) rz.out rfl
  refine ⟨rfl, _, by simp [results, Tryz.results39, go_sem, z0, z1, z2, z3, z4] <;> exact ⟨rfl, rfl⟩, [.int .i64 0, .int .i64 0, .string ⟨#[]⟩, .slice none 0 0, .slice none 0 0], rfl, hbz.out, ?_⟩
  exact rd_zeroP
end Go.Proofs.YthjihdpleclejaaGreatDoor
