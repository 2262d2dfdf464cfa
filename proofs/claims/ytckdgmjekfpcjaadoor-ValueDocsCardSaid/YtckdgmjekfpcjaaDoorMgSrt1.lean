/-
  Walks: the order that Make hands over; ranges exchanged. No condition.
  Walk: Go's rotate, by exchanges of ranges. No condition.
-/
import Derived.BigRegion
import Derived.Test.YtckdgmjekfpcjaaDoorMgSrtE
import Derived.Test.YtckdgmjekfpcjaaDoorMgShelfA
import Derived.Test.YtckdgmjekfpcjaaDoorMgHel
namespace Go.Proofs.YtckdgmjekfpcjaaDoor
open Go.RowKit Go.Proofs
open Go.Sort (swp PermIn SortedIn)

set_option maxRecDepth 100000 in
theorem cmpE_calls (x y : FE) (w : World) :
    Calls Tryd.prog 17 #[.agg x.cells.toArray, .agg y.cells.toArray] w fun e w' => e = .returned (.int .i64 (scmp x.nm y.nm)) ∧ Below w.heap.size w w' := by
  have hsc := hid (fun w => Tryd.strings_Compare x.nm y.nm w)
  obtain ⟨xm, xk, xn, xs, xa, xl, xc, xf, xg, xh⟩ := x
  obtain ⟨ym, yk, yn, ys, ya, yl, yc, yf, yg, yh⟩ := y
  simp only [FE.cells] at hsc ⊢
  have D := hid ((below_new w (.cells #[.string xm, .int .i64 xk, .int .i64 xn, .string xs, .slice xa xl xc, .slice xf xg xh] 33)).step (below_new _ (.cells #[.string ym, .int .i64 yk, .int .i64 yn, .string ys, .slice ya yl yc, .slice yf yg yh] 33)))
  go_enter Tryd.func17, Tryd.ntmps17
  go_wp2_with fail
  refine (hsc.out _).mono ?_
  rintro e w1 ⟨rfl, hw1⟩
  subst hw1
  go_wp2_with fail
  go_ret
  exact ⟨rfl, D.out⟩

set_option maxRecDepth 100000 in
set_option maxHeartbeats 8000000 in
theorem swapRange_calls {base g off cap : Nat} (hbase : base ≤ g) (d : Array FE) (a b n : Nat) (hab : a + n ≤ b) (hbn : b + n ≤ d.size) (hsz : d.size ≤ 1099511627776) {w : World} (hR : RowE w g off d) (fv : Value) :
    Calls Tryd.prog 51 #[.slice (some ⟨g, off, none⟩) d.size cap, .int .i64 a, .int .i64 b, .int .i64 n, fv] w (SortC base g off (SwapIn a b n d) w) := by
  unfold SortC
  obtain ⟨N, hN⟩ : ∃ N, N = d.size := ⟨_, rfl⟩
  rw [← hN] at hbn hsz ⊢
  replace hN := hid hN
  have hR0 := hid hR
  clear hR
  go_enter Tryd.func51, Tryd.ntmps51
  go_wp2_with fail
  go_loopg [10] n (fun gk s wr => ∃ (i : Nat) (dk : Array FE), gk + i = n ∧ s = .int .i64 i ∧ Hid (SwapIn a b i d dk) ∧ Hid (RowE wr g off dk) ∧ Hid (Below base w wr))
  case atStart => exact ⟨0, d, by omega, rfl, swapIn_zero a b d, hR0, Below.refl _ _⟩
  case round =>
    clear hR0
    obtain ⟨i, dk, hg, rfl, hS, hR, hB⟩ := hrel
    have hsd := hid (show dk.size = N from by rw [hS.out.1.1, hN.out])
    by_cases hlt : i < n
    · have hq := hid (hR.out.swapped (i := a + i) (j := b + i) (by rw [hsd.out]; omega) (by rw [hsd.out]; omega) (by omega))
      have hx := hR.out.cell (i := a + i) (by rw [hsd.out]; omega)
      have hy := hR.out.cell (i := b + i) (by rw [hsd.out]; omega)
      have hS2 := hid (swapIn_step (by omega) (by rw [← hN.out]; omega) hS.out)
      have hlti : (i : Int) < (n : Int) := by omega
      have e1 : IntKind.i64.wrap ((a : Int) + (i : Int)) = (a : Int) + (i : Int) := by rw [IntWalk.i64_in _ (by omega)]
      have e2 : IntKind.i64.wrap ((b : Int) + (i : Int)) = (b : Int) + (i : Int) := by rw [IntWalk.i64_in _ (by omega)]
      have f0 := fun o => hR.out.2.2 o
      generalize dk[a + i]! = X at *
      generalize dk[b + i]! = Y at *
      obtain ⟨xm, xk, xn, xs, xa, xl, xc, xf, xg, xh⟩ := X
      obtain ⟨ym, yk, yn, ys, ya, yl, yc, yf, yg, yh⟩ := Y
      obtain ⟨x0, x1, x2, x3, x4, x5⟩ := hx
      obtain ⟨y0, y1, y2, y3, y4, y5⟩ := hy
      simp only at x0 x1 x2 x3 x4 x5 y0 y1 y2 y3 y4 y5
      have b1 : (a : Int) + (i : Int) < (N : Int) := by omega
      have b2 : (b : Int) + (i : Int) < (N : Int) := by omega
      have b3 : (0 : Int) ≤ (a : Int) + (i : Int) := by omega
      have b4 : (0 : Int) ≤ (b : Int) + (i : Int) := by omega
      have n1 : ((a : Int) + (i : Int)).toNat = a + i := by omega
      have n2 : ((b : Int) + (i : Int)).toNat = b + i := by omega
      go_upto_region 3 with fail
      have mixed : Tryd.prog.follows Departure.mixedOrders = true := by kernel_rfl
      go_big_region_o
      clear x0 x1 x2 x3 x4 x5 y0 y1 y2 y3 y4 y5 f0
      change Exit.inBlock 1 _ Exit.normal _ (World.drew ((wr.setCells g (off + (a + i) * 6) (FE.cells ⟨ym, yk, yn, ys, ya, yl, yc, yf, yg, yh⟩)).setCells g (off + (b + i) * 6) (FE.cells ⟨xm, xk, xn, xs, xa, xl, xc, xf, xg, xh⟩)))
      have hB2 := hid (hB.out.trans ((below_cells hbase (FE.cells ⟨ym, yk, yn, ys, ya, yl, yc, yf, yg, yh⟩) (off + (a + i) * 6) wr).trans (below_cells hbase (FE.cells ⟨xm, xk, xn, xs, xa, xl, xc, xf, xg, xh⟩) (off + (b + i) * 6) _)))
      generalize (wr.setCells g (off + (a + i) * 6) (FE.cells ⟨ym, yk, yn, ys, ya, yl, yc, yf, yg, yh⟩)).setCells g (off + (b + i) * 6) (FE.cells ⟨xm, xk, xn, xs, xa, xl, xc, xf, xg, xh⟩) = wz at hq hB2 ⊢
      go_wp2_with fail
      go_roundg (n - (i + 1))
      case measure => omega
      case rel => exact ⟨i + 1, swp dk (a + i) (b + i), by omega, by go_num, hS2, hid (hq.out.later (Below.refl wz.heap.size wz).drew), hid (hB2.out.trans (Below.refl base wz).drew)⟩
    · have hlti : ¬ (i : Int) < (n : Int) := by omega
      obtain rfl : i = n := by omega
      go_wp2_with fail
      go_end0
      exact ⟨rfl, hB.out, dk, hS.out, hR.out⟩
end Go.Proofs.YtckdgmjekfpcjaaDoor

namespace Go.Proofs.YtckdgmjekfpcjaaDoor
open Go.RowKit Go.Proofs
open Go.Sort (swp PermIn SortedIn)

set_option maxRecDepth 100000 in
set_option maxHeartbeats 8000000 in
theorem rotate_calls {base g off cap : Nat} (hbase : base ≤ g) (d : Array FE) (a m b : Nat) (ham : a < m) (hmb : m < b) (hb : b ≤ d.size) (hsz : d.size ≤ 1099511627776) {w : World} (hR : RowE w g off d) (fv : Value) :
    Calls Tryd.prog 48 #[.slice (some ⟨g, off, none⟩) d.size cap, .int .i64 a, .int .i64 m, .int .i64 b, fv] w (SortC base g off (TurnIn a m b d) w) := by
  unfold SortC
  obtain ⟨N, hN⟩ : ∃ N, N = d.size := ⟨_, rfl⟩
  have hsw := hid (fun (wr : World) (dk : Array FE) (a b n : Nat) (hk : dk.size = N) (h1 : a + n ≤ b) (h2 : b + n ≤ N) (h3 : RowE wr g off dk) => by
    have h := swapRange_calls (cap := cap) hbase dk a b n h1 (by rw [hk]; exact h2) (by rw [hk, hN]; exact hsz) h3 fv
    rw [hk] at h
    exact h)
  unfold SortC at hsw
  rw [← hN] at hb hsz ⊢
  replace hN := hid hN
  have hR0 := hid hR
  clear hR
  have q1 : IntKind.i64.wrap ((m : Int) - (a : Int)) = ((m - a : Nat) : Int) := by rw [IntWalk.i64_in _ (by omega)]; omega
  have q2 : IntKind.i64.wrap ((b : Int) - (m : Int)) = ((b - m : Nat) : Int) := by rw [IntWalk.i64_in _ (by omega)]; omega
  go_enter Tryd.func48, Tryd.ntmps48
  go_wp2_with fail
  go_loopg [10, 11] (b - a) (fun gk s t wr => ∃ (i j : Nat) (dk : Array FE), s = .int .i64 i ∧ t = .int .i64 j ∧ 1 ≤ i ∧ 1 ≤ j ∧ i ≤ m ∧ m + j ≤ N ∧ i + j ≤ gk ∧ Hid (dk.size = N) ∧ Hid (∀ d', TurnIn (m - i) m (m + j) dk d' → TurnIn a m b d d') ∧ Hid (RowE wr g off dk) ∧ Hid (Below base w wr))
  case atStart =>
    clear q1 q2
    exact ⟨m - a, b - m, d, rfl, rfl, by omega, by omega, by omega, by omega, by omega, hid hN.out.symm, by show ∀ d', _; rw [show m - (m - a) = a by omega, show m + (b - m) = b by omega]; exact fun _ h => h, hR0, Below.refl _ _⟩
  case round =>
    clear hR0 q1 q2
    obtain ⟨i, j, dk, rfl, rfl, hi1, hj1, him, hjN, hgk, hsd, hT, hR, hB⟩ := hrel
    have e1 : IntKind.i64.wrap ((m : Int) - (i : Int)) = ((m - i : Nat) : Int) := by rw [IntWalk.i64_in _ (by omega)]; omega
    have e2 : IntKind.i64.wrap ((m : Int) + (j : Int)) = (m : Int) + (j : Int) := by rw [IntWalk.i64_in _ (by omega)]
    by_cases hij : i = j
    · subst hij
      have hne : ((i : Int) != (i : Int)) = false := by simp
      go_wp2_with fail
      refine (hsw.out wr dk (m - i) m i hsd.out (by omega) (by omega) hR.out).mono ?_
      rintro e w2 ⟨rfl, h2, d2, hS2, hR2⟩
      go_wp2_with fail
      go_end0
      exact ⟨rfl, hB.out.trans h2, d2, hT.out d2 (turn_same him hS2), hR2⟩
    · have hne : ((i : Int) != (j : Int)) = true := by simp; omega
      by_cases hlt : j < i
      · have hgt : (j : Int) < (i : Int) := by omega
        have e4 : IntKind.i64.wrap ((i : Int) - (j : Int)) = ((i - j : Nat) : Int) := by rw [IntWalk.i64_in _ (by omega)]; omega
        go_wp2_with fail
        refine (hsw.out wr dk (m - i) m j hsd.out (by omega) (by omega) hR.out).mono ?_
        rintro e w2 ⟨rfl, h2, d2, hS2, hR2⟩
        have hB2 := hid (hB.out.trans h2)
        replace hR2 := hid hR2
        replace hS2 := hid hS2
        clear h2
        go_wp2_with fail
        go_roundg (gk - j)
        case measure => omega
        case rel => exact ⟨i - j, j, d2, rfl, rfl, by omega, hj1, by omega, hjN, by omega, hid (hS2.out.1.1.trans hsd.out), hid (fun d' h => hT.out d' (turn_left him hlt (by rw [hsd.out]; exact hjN) hS2.out h)), hR2, hB2⟩
      · have hgt : ¬ (j : Int) < (i : Int) := by omega
        have e3 : IntKind.i64.wrap ((m : Int) + (j : Int) - (i : Int)) = ((m + j - i : Nat) : Int) := by rw [IntWalk.i64_in _ (by omega)]; omega
        have e4 : IntKind.i64.wrap ((j : Int) - (i : Int)) = ((j - i : Nat) : Int) := by rw [IntWalk.i64_in _ (by omega)]; omega
        go_wp2_with fail
        refine (hsw.out wr dk (m - i) (m + j - i) i hsd.out (by omega) (by omega) hR.out).mono ?_
        rintro e w2 ⟨rfl, h2, d2, hS2, hR2⟩
        have hB2 := hid (hB.out.trans h2)
        replace hR2 := hid hR2
        replace hS2 := hid hS2
        clear h2
        go_wp2_with fail
        go_roundg (gk - i)
        case measure => omega
        case rel => exact ⟨i, j - i, d2, rfl, rfl, hi1, by omega, him, by omega, by omega, hid (hS2.out.1.1.trans hsd.out), hid (fun d' h => hT.out d' (turn_right him (by omega) (by rw [hsd.out]; exact hjN) hS2.out h)), hR2, hB2⟩
end Go.Proofs.YtckdgmjekfpcjaaDoor
