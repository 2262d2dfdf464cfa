/-
  Walk: Go's symMerge where one of the rows holds one element. No condition.
-/
import Derived.Test.YtckdgmjekfpcjaaDoorMgSrt1
import Derived.Test.YtckdgmjekfpcjaaDoorMgHel
namespace Go.Proofs.YtckdgmjekfpcjaaDoor
open Go.RowKit Go.Proofs
open Go.Sort (swp PermIn SortedIn)

/-- What a comparison reads. -/
def CmpS (g p : Nat) (u0 u1 u2 u3 u4 u5 : Value) (q : Nat) (v0 v1 v2 v3 v4 v5 : Value) (x : World) : Prop := x.cell? ⟨g, p, none⟩ = some u0 ∧ x.cell? ⟨g, p + 1, none⟩ = some u1 ∧ x.cell? ⟨g, p + 2, none⟩ = some u2 ∧ x.cell? ⟨g, p + 3, none⟩ = some u3 ∧ x.cell? ⟨g, p + 4, none⟩ = some u4 ∧ x.cell? ⟨g, p + 5, none⟩ = some u5 ∧ x.cell? ⟨g, q, none⟩ = some v0 ∧ x.cell? ⟨g, q + 1, none⟩ = some v1 ∧ x.cell? ⟨g, q + 2, none⟩ = some v2 ∧ x.cell? ⟨g, q + 3, none⟩ = some v3 ∧ x.cell? ⟨g, q + 4, none⟩ = some v4 ∧ x.cell? ⟨g, q + 5, none⟩ = some v5
theorem ltE_true {x y : FE} (h : scmp x.nm y.nm < 0) : ltE x y = true := decide_eq_true h
theorem ltE_false {x y : FE} (h : ¬ scmp x.nm y.nm < 0) : ltE x y = false := decide_eq_false h
/-- A row sorted from a to b. -/
def MergedE (a b : Nat) (d d' : Array FE) : Prop := PermIn a b d d' ∧ SortedIn ltE a b d'

set_option maxRecDepth 100000 in
set_option maxHeartbeats 8000000 in
theorem symOne_calls {base g off cap : Nat} (hbase : base ≤ g) (d : Array FE) (a m b : Nat) (hm : m = a + 1) (hmb : m < b) (hb : b ≤ d.size) (hY : SortedIn ltE m b d) (hsz : d.size ≤ 1099511627776) {w : World} (hR : RowE w g off d) :
    Calls Tryd.prog 40 #[.slice (some ⟨g, off, none⟩) d.size cap, .int .i64 a, .int .i64 m, .int .i64 b, .func (.func 17) #[] #[]] w (SortC base g off (MergedE a b d) w) := by
  unfold SortC
  have hcm := hid (fun (x y : FE) (w : World) => cmpE_calls x y w)
  obtain ⟨N, hN⟩ : ∃ N, N = d.size := ⟨_, rfl⟩
  rw [← hN] at hb hsz ⊢
  have hN0 := hid hN.symm
  clear hN
  have hR0 := hid hR
  clear hR
  have hma : (m : Int) - (a : Int) = 1 := by omega
  have ham : a < m := by omega
  replace hm := hid hm
  replace hY := hid (show SortedIn ltE (a + 1) b d from by rw [← hm.out]; exact hY)
  have q1 : IntKind.i64.wrap (((m : Nat) : Int) - (a : Int)) = 1 := by rw [IntWalk.i64_in _ (by omega)]; omega
  go_enter Tryd.func40, Tryd.ntmps40
  go_wp2_with fail
  go_loopg [10, 11] b (fun gk s t wr => ∃ (i j : Nat), s = .int .i64 i ∧ t = .int .i64 j ∧ j ≤ gk + i ∧ m ≤ i ∧ i ≤ j ∧ j ≤ b ∧ Hid (i = m ∨ ltE d[i - 1]! d[a]! = true) ∧ Hid (j = b ∨ ltE d[j]! d[a]! = false) ∧ Hid (RowE wr g off d) ∧ Hid (Below base w wr))
  case atStart => exact ⟨m, b, rfl, rfl, by omega, Nat.le_refl _, by omega, Nat.le_refl _, .inl rfl, .inl rfl, hR0, Below.refl _ _⟩
  case round =>
    clear hR0 q1
    obtain ⟨i, j, rfl, rfl, hgk, hai, hij, hjb, hI, hJ, hR, hB⟩ := hrel
    by_cases hlt : i < j
    · have hlti : (i : Int) < (j : Int) := by omega
      obtain ⟨h, hh⟩ : ∃ h, h = (i + j) / 2 := ⟨_, rfl⟩
      have e1 : IntKind.i64.wrap ((i : Int) + (j : Int)) = (i : Int) + (j : Int) := by rw [IntWalk.i64_in _ (by omega)]
      have e2 : IntKind.u64.wrap ((i : Int) + (j : Int)) = (i : Int) + (j : Int) := by rw [IntKind.wrap_u64]; omega
      have e3 : ((i : Int) + (j : Int)) / 2 = (h : Int) := by omega
      have e4 : IntKind.i64.wrap (h : Int) = (h : Int) := by rw [IntWalk.i64_in _ (by omega)]
      have hih : i ≤ h := by omega
      have hhj : h < j := by omega
      clear hh
      have hx := hR.out.cell (i := h) (by rw [hN0.out]; omega)
      have hy := hR.out.cell (i := a) (by rw [hN0.out]; omega)
      have hc1 := hid (fun (c : scmp d[h]!.nm d[a]!.nm < 0) => ltE_true c)
      have hc2 := hid (fun (c : ¬ scmp d[h]!.nm d[a]!.nm < 0) => ltE_false c)
      obtain ⟨XE, hXE⟩ : ∃ x, x = d[h]! := ⟨_, rfl⟩
      obtain ⟨YE, hYE⟩ : ∃ x, x = d[a]! := ⟨_, rfl⟩
      rw [← hXE] at hx
      rw [← hYE] at hy
      have hkey := hid (show scmp d[h]!.nm d[a]!.nm = scmp XE.nm YE.nm from by rw [hXE, hYE])
      clear hXE hYE
      obtain ⟨xm, xk, xn, xs, xa, xl, xc, xf, xg, xh⟩ := XE
      obtain ⟨ym, yk, yn, ys, ya, yl, yc, yf, yg, yh⟩ := YE
      obtain ⟨x0, x1, x2, x3, x4, x5⟩ := hx
      obtain ⟨y0, y1, y2, y3, y4, y5⟩ := hy
      simp only at x0 x1 x2 x3 x4 x5 y0 y1 y2 y3 y4 y5
      have b1 : (h : Int) < (N : Int) := by omega
      have b2 : (a : Int) < (N : Int) := by omega
      have hSS : Hid (∀ z : World, Below wr.heap.size wr z → CmpS g (off + (h) * 6) (.string xm) (.int .i64 xk) (.int .i64 xn) (.string xs) (.slice xa xl xc) (.slice xf xg xh) (off + (a) * 6) (.string ym) (.int .i64 yk) (.int .i64 yn) (.string ys) (.slice ya yl yc) (.slice yf yg yh) z) := fun z h => by
        have hl := hR.out.1
        exact ⟨(h.cell (p := ⟨g, _, none⟩) hl).trans x0, (h.cell (p := ⟨g, _, none⟩) hl).trans x1, (h.cell (p := ⟨g, _, none⟩) hl).trans x2, (h.cell (p := ⟨g, _, none⟩) hl).trans x3, (h.cell (p := ⟨g, _, none⟩) hl).trans x4, (h.cell (p := ⟨g, _, none⟩) hl).trans x5, (h.cell (p := ⟨g, _, none⟩) hl).trans y0, (h.cell (p := ⟨g, _, none⟩) hl).trans y1, (h.cell (p := ⟨g, _, none⟩) hl).trans y2, (h.cell (p := ⟨g, _, none⟩) hl).trans y3, (h.cell (p := ⟨g, _, none⟩) hl).trans y4, (h.cell (p := ⟨g, _, none⟩) hl).trans y5⟩
      clear x0 x1 x2 x3 x4 x5 y0 y1 y2 y3 y4 y5
      go_upto_region 5 with fail
      refine wp_region_T (CmpS g (off + (h) * 6) (.string xm) (.int .i64 xk) (.int .i64 xn) (.string xs) (.slice xa xl xc) (.slice xf xg xh) (off + (a) * 6) (.string ym) (.int .i64 yk) (.int .i64 yn) (.string ys) (.slice ya yl yc) (.slice yf yg yh)) 11 (by kernel_rfl) ?_
      have hT0 := hSS.out wr.drew (Below.refl wr.heap.size wr).drew
      ((refine wpAnyT_take (i := 0) (v := ?_) rfl (by kernel_rfl) (by kernel_rfl) (by kernel_rfl) (by kernel_rfl) (by exact fun _ _ _ h => h) (Or.inl ⟨by kernel_rfl, ?_⟩) hT0 ?_; rotate_left 1; focus (intro w hSw; unfold CmpS at hSw; (try dsimp only at hSw); go_simp; try with_reducible rfl); (try simp only [List.getElem_toArray, List.getElem_cons_zero, List.getElem_cons_succ, Act.put, List.setIfInBounds_toArray, List.set_cons_zero, List.set_cons_succ])); (refine wpAnyT_take (i := 1) (v := ?_) rfl (by kernel_rfl) (by kernel_rfl) (by kernel_rfl) (by kernel_rfl) (by exact fun _ _ _ h => h) (Or.inl ⟨by kernel_rfl, ?_⟩) hT0 ?_; rotate_left 1; focus (intro w hSw; unfold CmpS at hSw; (try dsimp only at hSw); go_simp; try with_reducible rfl); (try simp only [List.getElem_toArray, List.getElem_cons_zero, List.getElem_cons_succ, Act.put, List.setIfInBounds_toArray, List.set_cons_zero, List.set_cons_succ])); (refine wpAnyT_take (i := 2) (v := ?_) rfl (by kernel_rfl) (by kernel_rfl) (by kernel_rfl) (by kernel_rfl) (by exact fun _ _ _ h => h) (Or.inl ⟨by kernel_rfl, ?_⟩) hT0 ?_; rotate_left 1; focus (intro w hSw; unfold CmpS at hSw; (try dsimp only at hSw); go_simp; try with_reducible rfl); (try simp only [List.getElem_toArray, List.getElem_cons_zero, List.getElem_cons_succ, Act.put, List.setIfInBounds_toArray, List.set_cons_zero, List.set_cons_succ])); (refine wpAnyT_take (i := 3) (v := ?_) rfl (by kernel_rfl) (by kernel_rfl) (by kernel_rfl) (by kernel_rfl) (by exact fun _ _ _ h => h) (Or.inl ⟨by kernel_rfl, ?_⟩) hT0 ?_; rotate_left 1; focus (intro w hSw; unfold CmpS at hSw; (try dsimp only at hSw); go_simp; try with_reducible rfl); (try simp only [List.getElem_toArray, List.getElem_cons_zero, List.getElem_cons_succ, Act.put, List.setIfInBounds_toArray, List.set_cons_zero, List.set_cons_succ])); (refine wpAnyT_take (i := 4) (v := ?_) rfl (by kernel_rfl) (by kernel_rfl) (by kernel_rfl) (by kernel_rfl) (by exact fun _ _ _ h => h) (Or.inl ⟨by kernel_rfl, ?_⟩) hT0 ?_; rotate_left 1; focus (intro w hSw; unfold CmpS at hSw; (try dsimp only at hSw); go_simp; try with_reducible rfl); (try simp only [List.getElem_toArray, List.getElem_cons_zero, List.getElem_cons_succ, Act.put, List.setIfInBounds_toArray, List.set_cons_zero, List.set_cons_succ])); (refine wpAnyT_take (i := 5) (v := ?_) rfl (by kernel_rfl) (by kernel_rfl) (by kernel_rfl) (by kernel_rfl) (by exact fun _ _ _ h => h) (Or.inl ⟨by kernel_rfl, ?_⟩) hT0 ?_; rotate_left 1; focus (intro w hSw; unfold CmpS at hSw; (try dsimp only at hSw); go_simp; try with_reducible rfl); (try simp only [List.getElem_toArray, List.getElem_cons_zero, List.getElem_cons_succ, Act.put, List.setIfInBounds_toArray, List.set_cons_zero, List.set_cons_succ])); (refine wpAnyT_take (i := 6) (v := ?_) rfl (by kernel_rfl) (by kernel_rfl) (by kernel_rfl) (by kernel_rfl) (by exact fun _ _ _ h => h) (Or.inl ⟨by kernel_rfl, ?_⟩) hT0 ?_; rotate_left 1; focus (intro w hSw; unfold CmpS at hSw; (try dsimp only at hSw); go_simp; try with_reducible rfl); (try simp only [List.getElem_toArray, List.getElem_cons_zero, List.getElem_cons_succ, Act.put, List.setIfInBounds_toArray, List.set_cons_zero, List.set_cons_succ])); (refine wpAnyT_take (i := 7) (v := ?_) rfl (by kernel_rfl) (by kernel_rfl) (by kernel_rfl) (by kernel_rfl) (by exact fun _ _ _ h => h) (Or.inl ⟨by kernel_rfl, ?_⟩) hT0 ?_; rotate_left 1; focus (intro w hSw; unfold CmpS at hSw; (try dsimp only at hSw); go_simp; try with_reducible rfl); (try simp only [List.getElem_toArray, List.getElem_cons_zero, List.getElem_cons_succ, Act.put, List.setIfInBounds_toArray, List.set_cons_zero, List.set_cons_succ])); (refine wpAnyT_take (i := 8) (v := ?_) rfl (by kernel_rfl) (by kernel_rfl) (by kernel_rfl) (by kernel_rfl) (by exact fun _ _ _ h => h) (Or.inl ⟨by kernel_rfl, ?_⟩) hT0 ?_; rotate_left 1; focus (intro w hSw; unfold CmpS at hSw; (try dsimp only at hSw); go_simp; try with_reducible rfl); (try simp only [List.getElem_toArray, List.getElem_cons_zero, List.getElem_cons_succ, Act.put, List.setIfInBounds_toArray, List.set_cons_zero, List.set_cons_succ])))
      refine wpAnyT_one (i := 9) (by kernel_rfl) rfl (fun K hK => ?_)
      go_simp
      refine (hcm.out ⟨xm, xk, xn, xs, xa, xl, xc, xf, xg, xh⟩ ⟨ym, yk, yn, ys, ya, yl, yc, yf, yg, yh⟩ wr.drew).mono ?_
      rintro e w2 ⟨rfl, h2⟩
      have E2 := hid ((Below.refl wr.heap.size wr).drew.step h2)
      have hT1 := hSS.out w2 E2.out
      clear h2 hT0
      simp only
      (refine hK.out _ _ (fun _ => hT1) (fun _ => ?_); clear hK K; (try simp only [Act.put, List.setIfInBounds_toArray, List.set_cons_zero, List.set_cons_succ]))
      refine wpAnyT_one (i := 10) (by kernel_rfl) rfl (fun K hK => ?_)
      go_simp
      (refine hK.out _ _ (fun _ => hT1) (fun _ => ?_); clear hK K; (try simp only [Act.put, List.setIfInBounds_toArray, List.set_cons_zero, List.set_cons_succ]))
      refine wpAnyT_done (by kernel_rfl) ?_ _
      clear hT1 hSS
      have hbw := hid (show base ≤ wr.heap.size from by have := hR.out.1; omega)
      have hR2 := hid (hR.out.later E2.out)
      have hB2 := hid (hB.out.trans (E2.out.mono hbw.out))
      by_cases hc : scmp xm ym < 0
      · have hl := hid (hc1.out (by rw [hkey.out]; exact hc))
        have e5 : IntKind.i64.wrap ((h : Int) + 1) = (h : Int) + 1 := by rw [IntWalk.i64_in _ (by omega)]
        clear hc1 hc2 hkey
        go_wp2_with fail
        go_roundg (j - (h + 1))
        case measure => omega
        case rel => exact ⟨h + 1, j, by go_num, rfl, by omega, by omega, by omega, hjb, .inr hl.out, hJ, hR2, hB2⟩
      · have hl := hid (hc2.out (by rw [hkey.out]; exact hc))
        clear hc1 hc2 hkey
        go_wp2_with fail
        go_roundg (h - i)
        case measure => omega
        case rel => exact ⟨i, h, rfl, rfl, by omega, hai, hih, by omega, hI, .inr hl.out, hR2, hB2⟩
    · have hlti : ¬ (i : Int) < (j : Int) := by omega
      obtain rfl : i = j := by omega
      have q2 : IntKind.i64.wrap ((i : Int) - 1) = ((i - 1 : Nat) : Int) := by rw [IntWalk.i64_in _ (by omega)]; omega
      have hR1 := hR
      have hB1 := hB
      clear hR hB
      go_wp2_with fail
      go_loopg [13] i (fun gk s wr => ∃ (k : Nat) (dk : Array FE), s = .int .i64 k ∧ i ≤ gk + k ∧ a ≤ k ∧ k + 1 ≤ i ∧ Hid (TurnIn a (a + 1) (k + 1) d dk) ∧ Hid (RowE wr g off dk) ∧ Hid (Below base w wr))
      case atStart => exact ⟨a, d, rfl, by omega, Nat.le_refl _, by omega, turn_none (.inr rfl), hR1, hB1⟩
      case round =>
        clear hR1 hB1
        obtain ⟨k, dk, rfl, hgk2, hak, hki, hT, hR, hB⟩ := hrel
        have hsd := hid (show dk.size = N from by rw [hT.out.1.1, hN0.out])
        by_cases hlt2 : k + 1 < i
        · have hlti2 : (k : Int) < ((i - 1 : Nat) : Int) := by omega
          have e1 : IntKind.i64.wrap ((k : Int) + 1) = ((k + 1 : Nat) : Int) := by rw [IntWalk.i64_in _ (by omega)]; omega
          have hT2 := hid (turn_up hak (by rw [← hT.out.1.1, hsd.out]; omega) hT.out)
          have b1 : (k : Int) < (N : Int) := by omega
          have b2 : ((k + 1 : Nat) : Int) < (N : Int) := by omega
          have hq := hid (hR.out.swapped (i := k) (j := k + 1) (by rw [hsd.out]; omega) (by rw [hsd.out]; omega) (by omega))
          have hx := hR.out.cell (i := k) (by rw [hsd.out]; omega)
          have hy := hR.out.cell (i := k + 1) (by rw [hsd.out]; omega)
          have f0 := fun o => hR.out.2.2 o
          generalize dk[k]! = XE at *
          generalize dk[k + 1]! = YE at *
          obtain ⟨xm, xk, xn, xs, xa, xl, xc, xf, xg, xh⟩ := XE
          obtain ⟨ym, yk, yn, ys, ya, yl, yc, yf, yg, yh⟩ := YE
          obtain ⟨x0, x1, x2, x3, x4, x5⟩ := hx
          obtain ⟨y0, y1, y2, y3, y4, y5⟩ := hy
          simp only at x0 x1 x2 x3 x4 x5 y0 y1 y2 y3 y4 y5
          go_upto_region 11 with fail
          have mixed : Tryd.prog.follows Departure.mixedOrders = true := by kernel_rfl
          go_big_region_o
          clear x0 x1 x2 x3 x4 x5 y0 y1 y2 y3 y4 y5 f0
          change Exit.inBlock _ _ Exit.normal _ (World.drew ((wr.setCells g (off + (k) * 6) (FE.cells ⟨ym, yk, yn, ys, ya, yl, yc, yf, yg, yh⟩)).setCells g (off + (k + 1) * 6) (FE.cells ⟨xm, xk, xn, xs, xa, xl, xc, xf, xg, xh⟩)))
          have hB2 := hid (hB.out.trans ((below_cells hbase (FE.cells ⟨ym, yk, yn, ys, ya, yl, yc, yf, yg, yh⟩) (off + (k) * 6) wr).trans (below_cells hbase (FE.cells ⟨xm, xk, xn, xs, xa, xl, xc, xf, xg, xh⟩) (off + (k + 1) * 6) _)))
          generalize (wr.setCells g (off + (k) * 6) (FE.cells ⟨ym, yk, yn, ys, ya, yl, yc, yf, yg, yh⟩)).setCells g (off + (k + 1) * 6) (FE.cells ⟨xm, xk, xn, xs, xa, xl, xc, xf, xg, xh⟩) = wz at hq hB2 ⊢
          go_wp2_with fail
          go_roundg (i - (k + 1))
          case measure => omega
          case rel => exact ⟨k + 1, swp dk k (k + 1), by go_num, by omega, by omega, by omega, hT2, hid (hq.out.later (Below.refl wz.heap.size wz).drew), hid (hB2.out.trans (Below.refl base wz).drew)⟩
        · have hlti2 : ¬ (k : Int) < ((i - 1 : Nat) : Int) := by omega
          obtain rfl : i = k + 1 := by omega
          go_wp2_with fail
          go_returns
          exact ⟨rfl, hB.out, dk, sym_one swo_E (by rw [← hm.out]; exact hai) hjb (by rw [hN0.out]; exact hb) hY.out (by rw [← hm.out]; exact hI.out) hJ.out hT.out, hR.out⟩
end Go.Proofs.YtckdgmjekfpcjaaDoor
