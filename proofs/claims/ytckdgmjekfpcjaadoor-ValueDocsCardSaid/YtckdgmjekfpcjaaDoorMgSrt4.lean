/-
  Walk: Go's symMerge where the second row holds one element. No condition.
-/
import Derived.Test.YtckdgmjekfpcjaaDoorMgSrt3
namespace Go.Proofs.YtckdgmjekfpcjaaDoor
open Go.RowKit Go.Proofs
open Go.Sort (swp PermIn SortedIn)

set_option maxRecDepth 100000 in
set_option maxHeartbeats 8000000 in
theorem symLast_calls {base g off cap : Nat} (hbase : base ≤ g) (d : Array FE) (a m b : Nat) (hm : b = m + 1) (ham : a + 1 < m) (hb : b ≤ d.size) (hX : SortedIn ltE a m d) (hsz : d.size ≤ 1099511627776) {w : World} (hR : RowE w g off d) :
    Calls Tryd.prog 40 #[.slice (some ⟨g, off, none⟩) d.size cap, .int .i64 a, .int .i64 m, .int .i64 b, .func (.func 17) #[] #[]] w (SortC base g off (MergedE a b d) w) := by
  unfold SortC
  have hcm := hid (fun (x y : FE) (w : World) => cmpE_calls x y w)
  obtain ⟨N, hN⟩ : ∃ N, N = d.size := ⟨_, rfl⟩
  rw [← hN] at hb hsz ⊢
  have hN0 := hid hN.symm
  clear hN
  have hR0 := hid hR
  clear hR
  have hmb : (b : Int) - (m : Int) = 1 := by omega
  have hma : ((m : Int) - (a : Int) == 1) = false := by simp; omega
  have hbm : m < b := by omega
  replace hm := hid hm
  replace hX := hid hX
  have q0 : IntKind.i64.wrap ((m : Int) - (a : Int)) = (m : Int) - (a : Int) := by rw [IntWalk.i64_in _ (by omega)]
  have q1 : IntKind.i64.wrap ((b : Int) - (m : Int)) = 1 := by rw [IntWalk.i64_in _ (by omega)]; omega
  go_enter Tryd.func40, Tryd.ntmps40
  go_wp2_with fail
  go_loopg [14, 15] m (fun gk s t wr => ∃ (i j : Nat), s = .int .i64 i ∧ t = .int .i64 j ∧ j ≤ gk + i ∧ a ≤ i ∧ i ≤ j ∧ j ≤ m ∧ Hid (i = a ∨ ltE d[m]! d[i - 1]! = false) ∧ Hid (j = m ∨ ltE d[m]! d[j]! = true) ∧ Hid (RowE wr g off d) ∧ Hid (Below base w wr))
  case atStart => exact ⟨a, m, rfl, rfl, by omega, Nat.le_refl _, by omega, Nat.le_refl _, .inl rfl, .inl rfl, hR0, Below.refl _ _⟩
  case round =>
    clear hR0 q0 q1
    obtain ⟨i, j, rfl, rfl, hgk, hai, hij, hjb, hI, hJ, hR, hB⟩ := hrel
    by_cases hlt : i < j
    · have hlti : (i : Int) < (j : Int) := by omega
      obtain ⟨h, hh⟩ : ∃ h, h = (i + j) / 2 := ⟨_, rfl⟩
      have e1 : IntKind.i64.wrap ((i : Int) + (j : Int)) = (i : Int) + (j : Int) := by rw [IntWalk.i64_in _ (by omega)]
      have e2 : IntKind.u64.wrap ((i : Int) + (j : Int)) = (i : Int) + (j : Int) := by rw [IntKind.wrap_u64]; omega
      have e3 : ((i : Int) + (j : Int)) / 2 = (h : Int) := by omega
      have e4 : IntKind.i64.wrap (h : Int) = (h : Int) := by rw [IntWalk.i64_in _ (by omega)]
      have hih : i ≤ h := by omega
      have hhj : h < j := by omega
      clear hh
      have hx := hR.out.cell (i := m) (by rw [hN0.out]; omega)
      have hy := hR.out.cell (i := h) (by rw [hN0.out]; omega)
      have hc1 := hid (fun (c : scmp d[m]!.nm d[h]!.nm < 0) => ltE_true c)
      have hc2 := hid (fun (c : ¬ scmp d[m]!.nm d[h]!.nm < 0) => ltE_false c)
      obtain ⟨XE, hXE⟩ : ∃ x, x = d[m]! := ⟨_, rfl⟩
      obtain ⟨YE, hYE⟩ : ∃ x, x = d[h]! := ⟨_, rfl⟩
      rw [← hXE] at hx
      rw [← hYE] at hy
      have hkey := hid (show scmp d[m]!.nm d[h]!.nm = scmp XE.nm YE.nm from by rw [hXE, hYE])
      clear hXE hYE
      obtain ⟨xm, xk, xn, xs, xa, xl, xc, xf, xg, xh⟩ := XE
      obtain ⟨ym, yk, yn, ys, ya, yl, yc, yf, yg, yh⟩ := YE
      obtain ⟨x0, x1, x2, x3, x4, x5⟩ := hx
      obtain ⟨y0, y1, y2, y3, y4, y5⟩ := hy
      simp only at x0 x1 x2 x3 x4 x5 y0 y1 y2 y3 y4 y5
      have b1 : (m : Int) < (N : Int) := by omega
      have b2 : (h : Int) < (N : Int) := by omega
      have hSS : Hid (∀ z : World, Below wr.heap.size wr z → CmpS g (off + (m) * 6) (.string xm) (.int .i64 xk) (.int .i64 xn) (.string xs) (.slice xa xl xc) (.slice xf xg xh) (off + (h) * 6) (.string ym) (.int .i64 yk) (.int .i64 yn) (.string ys) (.slice ya yl yc) (.slice yf yg yh) z) := fun z h => by
        have hl := hR.out.1
        exact ⟨(h.cell (p := ⟨g, _, none⟩) hl).trans x0, (h.cell (p := ⟨g, _, none⟩) hl).trans x1, (h.cell (p := ⟨g, _, none⟩) hl).trans x2, (h.cell (p := ⟨g, _, none⟩) hl).trans x3, (h.cell (p := ⟨g, _, none⟩) hl).trans x4, (h.cell (p := ⟨g, _, none⟩) hl).trans x5, (h.cell (p := ⟨g, _, none⟩) hl).trans y0, (h.cell (p := ⟨g, _, none⟩) hl).trans y1, (h.cell (p := ⟨g, _, none⟩) hl).trans y2, (h.cell (p := ⟨g, _, none⟩) hl).trans y3, (h.cell (p := ⟨g, _, none⟩) hl).trans y4, (h.cell (p := ⟨g, _, none⟩) hl).trans y5⟩
      clear x0 x1 x2 x3 x4 x5 y0 y1 y2 y3 y4 y5
      go_upto_region 17 with fail
      refine wp_region_T (CmpS g (off + (m) * 6) (.string xm) (.int .i64 xk) (.int .i64 xn) (.string xs) (.slice xa xl xc) (.slice xf xg xh) (off + (h) * 6) (.string ym) (.int .i64 yk) (.int .i64 yn) (.string ys) (.slice ya yl yc) (.slice yf yg yh)) 12 (by kernel_rfl) ?_
      have hT0 := hSS.out wr.drew (Below.refl wr.heap.size wr).drew
      ((refine wpAnyT_take (i := 0) (v := ?_) rfl (by kernel_rfl) (by kernel_rfl) (by kernel_rfl) (by kernel_rfl) (by exact fun _ _ _ h => h) (Or.inl ⟨by kernel_rfl, ?_⟩) hT0 ?_; rotate_left 1; focus (intro w hSw; unfold CmpS at hSw; (try dsimp only at hSw); go_simp; try with_reducible rfl); (try simp only [List.getElem_toArray, List.getElem_cons_zero, List.getElem_cons_succ, Act.put, List.setIfInBounds_toArray, List.set_cons_zero, List.set_cons_succ])); (refine wpAnyT_take (i := 1) (v := ?_) rfl (by kernel_rfl) (by kernel_rfl) (by kernel_rfl) (by kernel_rfl) (by exact fun _ _ _ h => h) (Or.inl ⟨by kernel_rfl, ?_⟩) hT0 ?_; rotate_left 1; focus (intro w hSw; unfold CmpS at hSw; (try dsimp only at hSw); go_simp; try with_reducible rfl); (try simp only [List.getElem_toArray, List.getElem_cons_zero, List.getElem_cons_succ, Act.put, List.setIfInBounds_toArray, List.set_cons_zero, List.set_cons_succ])); (refine wpAnyT_take (i := 2) (v := ?_) rfl (by kernel_rfl) (by kernel_rfl) (by kernel_rfl) (by kernel_rfl) (by exact fun _ _ _ h => h) (Or.inl ⟨by kernel_rfl, ?_⟩) hT0 ?_; rotate_left 1; focus (intro w hSw; unfold CmpS at hSw; (try dsimp only at hSw); go_simp; try with_reducible rfl); (try simp only [List.getElem_toArray, List.getElem_cons_zero, List.getElem_cons_succ, Act.put, List.setIfInBounds_toArray, List.set_cons_zero, List.set_cons_succ])); (refine wpAnyT_take (i := 3) (v := ?_) rfl (by kernel_rfl) (by kernel_rfl) (by kernel_rfl) (by kernel_rfl) (by exact fun _ _ _ h => h) (Or.inl ⟨by kernel_rfl, ?_⟩) hT0 ?_; rotate_left 1; focus (intro w hSw; unfold CmpS at hSw; (try dsimp only at hSw); go_simp; try with_reducible rfl); (try simp only [List.getElem_toArray, List.getElem_cons_zero, List.getElem_cons_succ, Act.put, List.setIfInBounds_toArray, List.set_cons_zero, List.set_cons_succ])); (refine wpAnyT_take (i := 4) (v := ?_) rfl (by kernel_rfl) (by kernel_rfl) (by kernel_rfl) (by kernel_rfl) (by exact fun _ _ _ h => h) (Or.inl ⟨by kernel_rfl, ?_⟩) hT0 ?_; rotate_left 1; focus (intro w hSw; unfold CmpS at hSw; (try dsimp only at hSw); go_simp; try with_reducible rfl); (try simp only [List.getElem_toArray, List.getElem_cons_zero, List.getElem_cons_succ, Act.put, List.setIfInBounds_toArray, List.set_cons_zero, List.set_cons_succ])); (refine wpAnyT_take (i := 5) (v := ?_) rfl (by kernel_rfl) (by kernel_rfl) (by kernel_rfl) (by kernel_rfl) (by exact fun _ _ _ h => h) (Or.inl ⟨by kernel_rfl, ?_⟩) hT0 ?_; rotate_left 1; focus (intro w hSw; unfold CmpS at hSw; (try dsimp only at hSw); go_simp; try with_reducible rfl); (try simp only [List.getElem_toArray, List.getElem_cons_zero, List.getElem_cons_succ, Act.put, List.setIfInBounds_toArray, List.set_cons_zero, List.set_cons_succ])); (refine wpAnyT_take (i := 6) (v := ?_) rfl (by kernel_rfl) (by kernel_rfl) (by kernel_rfl) (by kernel_rfl) (by exact fun _ _ _ h => h) (Or.inl ⟨by kernel_rfl, ?_⟩) hT0 ?_; rotate_left 1; focus (intro w hSw; unfold CmpS at hSw; (try dsimp only at hSw); go_simp; try with_reducible rfl); (try simp only [List.getElem_toArray, List.getElem_cons_zero, List.getElem_cons_succ, Act.put, List.setIfInBounds_toArray, List.set_cons_zero, List.set_cons_succ])); (refine wpAnyT_take (i := 7) (v := ?_) rfl (by kernel_rfl) (by kernel_rfl) (by kernel_rfl) (by kernel_rfl) (by exact fun _ _ _ h => h) (Or.inl ⟨by kernel_rfl, ?_⟩) hT0 ?_; rotate_left 1; focus (intro w hSw; unfold CmpS at hSw; (try dsimp only at hSw); go_simp; try with_reducible rfl); (try simp only [List.getElem_toArray, List.getElem_cons_zero, List.getElem_cons_succ, Act.put, List.setIfInBounds_toArray, List.set_cons_zero, List.set_cons_succ])); (refine wpAnyT_take (i := 8) (v := ?_) rfl (by kernel_rfl) (by kernel_rfl) (by kernel_rfl) (by kernel_rfl) (by exact fun _ _ _ h => h) (Or.inl ⟨by kernel_rfl, ?_⟩) hT0 ?_; rotate_left 1; focus (intro w hSw; unfold CmpS at hSw; (try dsimp only at hSw); go_simp; try with_reducible rfl); (try simp only [List.getElem_toArray, List.getElem_cons_zero, List.getElem_cons_succ, Act.put, List.setIfInBounds_toArray, List.set_cons_zero, List.set_cons_succ])))
      refine wpAnyT_one (i := 9) (by kernel_rfl) rfl (fun K hK => ?_)
      go_simp
      refine (hcm.out ⟨xm, xk, xn, xs, xa, xl, xc, xf, xg, xh⟩ ⟨ym, yk, yn, ys, ya, yl, yc, yf, yg, yh⟩ wr.drew).mono ?_
      rintro e w2 ⟨rfl, h2⟩
      have E2 := hid ((Below.refl wr.heap.size wr).drew.step h2)
      have hT1 := hSS.out w2 E2.out
      clear h2 hT0
      simp only
      (refine hK.out _ _ (fun _ => hT1) (fun _ => ?_); clear hK K; (try simp only [Act.put, List.setIfInBounds_toArray, List.set_cons_zero, List.set_cons_succ]))
      refine wpAnyT_one (i := 10) (by kernel_rfl) rfl (fun K hK => ?_)
      go_simp
      (refine hK.out _ _ (fun _ => hT1) (fun _ => ?_); clear hK K; (try simp only [Act.put, List.setIfInBounds_toArray, List.set_cons_zero, List.set_cons_succ]))
      refine wpAnyT_one (i := 11) (by kernel_rfl) rfl (fun K hK => ?_)
      go_simp
      (refine hK.out _ _ (fun _ => hT1) (fun _ => ?_); clear hK K; (try simp only [Act.put, List.setIfInBounds_toArray, List.set_cons_zero, List.set_cons_succ]))
      refine wpAnyT_done (by kernel_rfl) ?_ _
      clear hT1 hSS
      have hbw := hid (show base ≤ wr.heap.size from by have := hR.out.1; omega)
      have hR2 := hid (hR.out.later E2.out)
      have hB2 := hid (hB.out.trans (E2.out.mono hbw.out))
      by_cases hc : scmp xm ym < 0
      · have hl := hid (hc1.out (by rw [hkey.out]; exact hc))
        have hcb : decide (scmp xm ym < 0) = true := decide_eq_true hc
        simp only [hcb, Bool.not_true]
        clear hcb
        clear hc1 hc2 hkey
        go_wp2_with fail
        go_roundg (h - i)
        case measure => omega
        case rel => exact ⟨i, h, rfl, rfl, by omega, hai, hih, by omega, hI, .inr hl.out, hR2, hB2⟩
      · have hl := hid (hc2.out (by rw [hkey.out]; exact hc))
        have hcb : decide (scmp xm ym < 0) = false := decide_eq_false hc
        simp only [hcb, Bool.not_false]
        clear hcb
        have e5 : IntKind.i64.wrap ((h : Int) + 1) = (h : Int) + 1 := by rw [IntWalk.i64_in _ (by omega)]
        clear hc1 hc2 hkey
        go_wp2_with fail
        go_roundg (j - (h + 1))
        case measure => omega
        case rel => exact ⟨h + 1, j, by go_num, rfl, by omega, by omega, by omega, hjb, .inr hl.out, hJ, hR2, hB2⟩
    · have hlti : ¬ (i : Int) < (j : Int) := by omega
      obtain rfl : i = j := by omega
      have hR1 := hR
      have hB1 := hB
      clear hR hB
      go_wp2_with fail
      go_loopg [17] m (fun gk s wr => ∃ (k : Nat) (dk : Array FE), s = .int .i64 k ∧ k ≤ gk + i ∧ i ≤ k ∧ k ≤ m ∧ Hid (TurnIn k m (m + 1) d dk) ∧ Hid (RowE wr g off dk) ∧ Hid (Below base w wr))
      case atStart => exact ⟨m, d, rfl, by omega, hjb, Nat.le_refl _, turn_none (.inl rfl), hR1, hB1⟩
      case round =>
        clear hR1 hB1
        obtain ⟨k, dk, rfl, hgk2, hak, hki, hT, hR, hB⟩ := hrel
        have hsd := hid (show dk.size = N from by rw [hT.out.1.1, hN0.out])
        by_cases hlt2 : i < k
        · have hlti2 : (i : Int) < (k : Int) := by omega
          obtain ⟨kp, hkp⟩ : ∃ q, k = q + 1 := ⟨k - 1, by omega⟩
          have hT2 := hid (turn_down (m := m) (d := d) (d' := dk) (i := kp) (by omega) (by rw [hN0.out]; omega) (by rw [← hkp]; exact hT.out))
          rw [← hkp] at hT2
          have e1 : IntKind.i64.wrap ((k : Int) - 1) = (kp : Int) := by rw [IntWalk.i64_in _ (by omega)]; omega
          have b1 : (k : Int) < (N : Int) := by omega
          have b2 : (kp : Int) < (N : Int) := by omega
          replace hkp := hid hkp
          have hkk := hid (show kp < k from by rw [hkp.out]; omega)
          have hkk2 : kp < N := by omega
          have hkk3 : k ≠ kp := by have := hkk.out; omega
          have hq := hid (hR.out.swapped (i := k) (j := kp) (by rw [hsd.out]; omega) (by rw [hsd.out]; omega) (by omega))
          have hx := hR.out.cell (i := k) (by rw [hsd.out]; omega)
          have hy := hR.out.cell (i := kp) (by rw [hsd.out]; omega)
          have f0 := fun o => hR.out.2.2 o
          generalize dk[k]! = XE at *
          generalize dk[kp]! = YE at *
          obtain ⟨xm, xk, xn, xs, xa, xl, xc, xf, xg, xh⟩ := XE
          obtain ⟨ym, yk, yn, ys, ya, yl, yc, yf, yg, yh⟩ := YE
          obtain ⟨x0, x1, x2, x3, x4, x5⟩ := hx
          obtain ⟨y0, y1, y2, y3, y4, y5⟩ := hy
          simp only at x0 x1 x2 x3 x4 x5 y0 y1 y2 y3 y4 y5
          go_upto_region 23 with fail
          have mixed : Tryd.prog.follows Departure.mixedOrders = true := by kernel_rfl
          go_big_region_o
          clear x0 x1 x2 x3 x4 x5 y0 y1 y2 y3 y4 y5 f0
          change Exit.inBlock _ _ Exit.normal _ (World.drew ((wr.setCells g (off + (k) * 6) (FE.cells ⟨ym, yk, yn, ys, ya, yl, yc, yf, yg, yh⟩)).setCells g (off + (kp) * 6) (FE.cells ⟨xm, xk, xn, xs, xa, xl, xc, xf, xg, xh⟩)))
          have hB2 := hid (hB.out.trans ((below_cells hbase (FE.cells ⟨ym, yk, yn, ys, ya, yl, yc, yf, yg, yh⟩) (off + (k) * 6) wr).trans (below_cells hbase (FE.cells ⟨xm, xk, xn, xs, xa, xl, xc, xf, xg, xh⟩) (off + (kp) * 6) _)))
          generalize (wr.setCells g (off + (k) * 6) (FE.cells ⟨ym, yk, yn, ys, ya, yl, yc, yf, yg, yh⟩)).setCells g (off + (kp) * 6) (FE.cells ⟨xm, xk, xn, xs, xa, xl, xc, xf, xg, xh⟩) = wz at hq hB2 ⊢
          go_wp2_with fail
          go_roundg (kp - i)
          case measure => have := hkp.out; omega
          case rel => exact ⟨kp, swp dk k kp, rfl, by have := hkp.out; omega, by have := hkp.out; omega, by have := hkp.out; omega, hT2, hid (hq.out.later (Below.refl wz.heap.size wz).drew), hid (hB2.out.trans (Below.refl base wz).drew)⟩
        · have hlti2 : ¬ (i : Int) < (k : Int) := by omega
          obtain rfl : i = k := by omega
          go_wp2_with fail
          go_returns
          have hfin := sym_last swo_E hai hjb (by rw [hN0.out, ← hm.out]; exact hb) hX.out hI.out hJ.out hT.out
          rw [← hm.out] at hfin
          exact ⟨rfl, hB.out, dk, hfin, hR.out⟩
end Go.Proofs.YtckdgmjekfpcjaaDoor
