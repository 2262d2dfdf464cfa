/-
  Walk: Go's symMerge at whatever rows. No condition.
  Walk: Go's insertion sort of a block. No condition.
-/
import Derived.Test.YtckdgmjekfpcjaaDoorMgSrt5
import Derived.Test.YtckdgmjekfpcjaaDoorMgSrt3
namespace Go.Proofs.YtckdgmjekfpcjaaDoor
open Go.RowKit Go.Proofs
open Go.Sort (swp PermIn SortedIn)

theorem symMerge_calls {base g off cap : Nat} (hbase : base ≤ g) : ∀ (len : Nat) (d : Array FE) (a m b : Nat) (w : World), b - a < len → a < m → m < b → b ≤ d.size → SortedIn ltE a m d → SortedIn ltE m b d → d.size ≤ 1099511627776 → RowE w g off d →
    Calls Tryd.prog 40 #[.slice (some ⟨g, off, none⟩) d.size cap, .int .i64 a, .int .i64 m, .int .i64 b, .func (.func 17) #[] #[]] w (SortC base g off (MergedE a b d) w)
  | 0, _, _, _, _, _, h, _, _, _, _, _, _, _ => absurd h (Nat.not_lt_zero _)
  | len + 1, d, a, m, b, w, hl, ham, hmb, hb, hX, hY, hsz, hR => by
    by_cases h1 : m = a + 1
    · exact symOne_calls hbase d a m b h1 hmb hb hY hsz hR
    · by_cases h2 : b = m + 1
      · exact symLast_calls hbase d a m b h2 (by omega) hb hX hsz hR
      · exact symMain_calls hbase d a m b (by omega) (by omega) hb hX hY hsz hR (fun d' a' m' b' w' h3 h4 h5 h6 h7 h8 h9 h10 => symMerge_calls hbase len d' a' m' b' w' (by omega) h4 h5 h6 h8 h9 (by rw [h7]; exact hsz) h10)
end Go.Proofs.YtckdgmjekfpcjaaDoor

namespace Go.Proofs.YtckdgmjekfpcjaaDoor
open Go.RowKit Go.Proofs
open Go.Sort (swp PermIn SortedIn insInner insOuter insertionSort)

theorem insInner_size (a : Nat) : ∀ (j : Nat) (d : Array FE), (insInner ltE a j d).size = d.size
  | 0, d => rfl
  | j + 1, d => by
    rw [insInner]
    split
    · rw [insInner_size a j, Go.Sort.size_swp]
    · rfl
set_option maxRecDepth 100000 in
set_option maxHeartbeats 16000000 in
theorem insSort_calls {base g off cap : Nat} (hbase : base ≤ g) (d : Array FE) (a b : Nat) (hab : a ≤ b) (hb : b ≤ d.size) (hsz : d.size ≤ 1099511627776) {w : World} (hR : RowE w g off d) :
    Calls Tryd.prog 39 #[.slice (some ⟨g, off, none⟩) d.size cap, .int .i64 a, .int .i64 b, .func (.func 17) #[] #[]] w (SortC base g off (fun d' => d' = insertionSort ltE d a b) w) := by
  unfold SortC
  have hcm := hid (fun (x y : FE) (w : World) => cmpE_calls x y w)
  obtain ⟨N, hN⟩ : ∃ N, N = d.size := ⟨_, rfl⟩
  rw [← hN] at hb hsz ⊢
  have hN0 := hid hN.symm
  clear hN
  have hR0 := hid hR
  clear hR
  have q1 : IntKind.i64.wrap ((a : Int) + 1) = (a : Int) + 1 := by rw [IntWalk.i64_in _ (by omega)]
  obtain ⟨RES, hRES⟩ : ∃ r, r = insertionSort ltE d a b := ⟨_, rfl⟩
  rw [← hRES]
  have hstart : Hid (insOuter ltE a b (a + 1) d = RES) := by show _ = _; rw [hRES]; rfl
  clear hRES
  go_enter Tryd.func39, Tryd.ntmps39
  go_wp2_with fail
  go_loopg [8] (b - a) (fun gk s wr => ∃ (i : Nat) (dk : Array FE), s = .int .i64 i ∧ a + 1 ≤ i ∧ i ≤ b + 1 ∧ b + 1 ≤ gk + i ∧ Hid (dk.size = N) ∧ Hid (insOuter ltE a b i dk = RES) ∧ Hid (RowE wr g off dk) ∧ Hid (Below base w wr))
  case atStart => exact ⟨a + 1, d, by go_num, Nat.le_refl _, by omega, by omega, hN0, hstart, hR0, Below.refl _ _⟩
  case round =>
    clear hR0 q1 hstart
    obtain ⟨i, dk, rfl, hai, hib, hgk, hsk, hO, hR, hB⟩ := hrel
    by_cases hlt : i < b
    · have hlti : (i : Int) < (b : Int) := by omega
      have hout : Hid (∀ dj, insInner ltE a i dk = dj → insOuter ltE a b (i + 1) dj = RES) := fun dj h => by
        rw [← hO.out, insOuter.eq_def ltE a b i dk, if_pos hlt, h]
      have hR1 := hR
      have hB1 := hB
      clear hR hB hO
      have e9 : IntKind.i64.wrap ((i : Int) + 1) = (i : Int) + 1 := by rw [IntWalk.i64_in _ (by omega)]
      go_wp2_with fail
      go_loopg [9] i (fun gk2 s wr => ∃ (j : Nat) (dj : Array FE), s = .int .i64 j ∧ a ≤ j ∧ j ≤ i ∧ j ≤ gk2 ∧ Hid (dj.size = N) ∧ Hid (insInner ltE a i dk = insInner ltE a j dj) ∧ Hid (RowE wr g off dj) ∧ Hid (Below base w wr))
      case atStart => exact ⟨i, dk, rfl, by omega, Nat.le_refl _, Nat.le_refl _, hsk, rfl, hR1, hB1⟩
      case round =>
        clear hR1 hB1
        obtain ⟨j, dj, rfl, haj, hji, hgk2, hsd, hI, hR, hB⟩ := hrel
        by_cases hja : a < j
        · have hjai : (a : Int) < (j : Int) := by omega
          obtain ⟨jp, hjp⟩ : ∃ q, j = q + 1 := ⟨j - 1, by omega⟩
          have e1 : IntKind.i64.wrap ((j : Int) - 1) = (jp : Int) := by rw [IntWalk.i64_in _ (by omega)]; omega
          have hin1 := hid (fun (h : ltE dj[j]! dj[jp]! = true) => (show insInner ltE a i dk = insInner ltE a jp (swp dj j jp) from by
            rw [hI.out, hjp, insInner, if_pos (by rw [← hjp, h, decide_eq_true hja]; rfl)]))
          have hin2 := hid (fun (h : ltE dj[j]! dj[jp]! = false) => (show insInner ltE a i dk = dj from by
            rw [hI.out, hjp, insInner, if_neg (by rw [← hjp, h]; simp)]))
          have hjN : j < N := by omega
          have hjpN : jp < N := by omega
          have hjj := hid (show jp < j from by omega)
          have hkk3 : j ≠ jp := by omega
          replace hjp := hid hjp
          have b1 : (j : Int) < (N : Int) := by omega
          have b2 : (jp : Int) < (N : Int) := by omega
          have hx := hR.out.cell (i := j) (by rw [hsd.out]; assumption)
          have hy := hR.out.cell (i := jp) (by rw [hsd.out]; assumption)
          have hc1 := hid (fun (c : scmp dj[j]!.nm dj[jp]!.nm < 0) => ltE_true c)
          have hc2 := hid (fun (c : ¬ scmp dj[j]!.nm dj[jp]!.nm < 0) => ltE_false c)
          obtain ⟨XE, hXE⟩ : ∃ x, x = dj[j]! := ⟨_, rfl⟩
          obtain ⟨YE, hYE⟩ : ∃ x, x = dj[jp]! := ⟨_, rfl⟩
          rw [← hXE] at hx
          rw [← hYE] at hy
          have hkey := hid (show scmp dj[j]!.nm dj[jp]!.nm = scmp XE.nm YE.nm from by rw [hXE, hYE])
          clear hXE hYE
          obtain ⟨xm, xk, xn, xs, xa, xl, xc, xf, xg, xh⟩ := XE
          obtain ⟨ym, yk, yn, ys, ya, yl, yc, yf, yg, yh⟩ := YE
          obtain ⟨x0, x1, x2, x3, x4, x5⟩ := hx
          obtain ⟨y0, y1, y2, y3, y4, y5⟩ := hy
          simp only at x0 x1 x2 x3 x4 x5 y0 y1 y2 y3 y4 y5
          have hSS : Hid (∀ z : World, Below wr.heap.size wr z → CmpS g (off + (j) * 6) (.string xm) (.int .i64 xk) (.int .i64 xn) (.string xs) (.slice xa xl xc) (.slice xf xg xh) (off + (jp) * 6) (.string ym) (.int .i64 yk) (.int .i64 yn) (.string ys) (.slice ya yl yc) (.slice yf yg yh) z) := fun z h => by
            have hl := hR.out.1
            exact ⟨(h.cell (p := ⟨g, _, none⟩) hl).trans x0, (h.cell (p := ⟨g, _, none⟩) hl).trans x1, (h.cell (p := ⟨g, _, none⟩) hl).trans x2, (h.cell (p := ⟨g, _, none⟩) hl).trans x3, (h.cell (p := ⟨g, _, none⟩) hl).trans x4, (h.cell (p := ⟨g, _, none⟩) hl).trans x5, (h.cell (p := ⟨g, _, none⟩) hl).trans y0, (h.cell (p := ⟨g, _, none⟩) hl).trans y1, (h.cell (p := ⟨g, _, none⟩) hl).trans y2, (h.cell (p := ⟨g, _, none⟩) hl).trans y3, (h.cell (p := ⟨g, _, none⟩) hl).trans y4, (h.cell (p := ⟨g, _, none⟩) hl).trans y5⟩
          clear x0 x1 x2 x3 x4 x5 y0 y1 y2 y3 y4 y5
          go_upto_region 4 with fail
          refine wp_region_T (CmpS g (off + (j) * 6) (.string xm) (.int .i64 xk) (.int .i64 xn) (.string xs) (.slice xa xl xc) (.slice xf xg xh) (off + (jp) * 6) (.string ym) (.int .i64 yk) (.int .i64 yn) (.string ys) (.slice ya yl yc) (.slice yf yg yh)) 17 (by kernel_rfl) ?_
          have hT0 := hSS.out wr.drew (Below.refl wr.heap.size wr).drew
          ((refine wpAnyT_take (i := 0) (v := ?_) rfl (by kernel_rfl) (by kernel_rfl) (by kernel_rfl) (by kernel_rfl) (by exact fun _ _ _ h => h) (Or.inl ⟨by kernel_rfl, ?_⟩) hT0 ?_; rotate_left 1; focus (intro w hSw; unfold CmpS at hSw; (try dsimp only at hSw); go_simp; try with_reducible rfl); (try simp only [List.getElem_toArray, List.getElem_cons_zero, List.getElem_cons_succ, Act.put, List.setIfInBounds_toArray, List.set_cons_zero, List.set_cons_succ])); (refine wpAnyT_take (i := 1) (v := ?_) rfl (by kernel_rfl) (by kernel_rfl) (by kernel_rfl) (by kernel_rfl) (by exact fun _ _ _ h => h) (Or.inl ⟨by kernel_rfl, ?_⟩) hT0 ?_; rotate_left 1; focus (intro w hSw; unfold CmpS at hSw; (try dsimp only at hSw); go_simp; try with_reducible rfl); (try simp only [List.getElem_toArray, List.getElem_cons_zero, List.getElem_cons_succ, Act.put, List.setIfInBounds_toArray, List.set_cons_zero, List.set_cons_succ])); (refine wpAnyT_take (i := 2) (v := ?_) rfl (by kernel_rfl) (by kernel_rfl) (by kernel_rfl) (by kernel_rfl) (by exact fun _ _ _ h => h) (Or.inl ⟨by kernel_rfl, ?_⟩) hT0 ?_; rotate_left 1; focus (intro w hSw; unfold CmpS at hSw; (try dsimp only at hSw); go_simp; try with_reducible rfl); (try simp only [List.getElem_toArray, List.getElem_cons_zero, List.getElem_cons_succ, Act.put, List.setIfInBounds_toArray, List.set_cons_zero, List.set_cons_succ])); (refine wpAnyT_take (i := 3) (v := ?_) rfl (by kernel_rfl) (by kernel_rfl) (by kernel_rfl) (by kernel_rfl) (by exact fun _ _ _ h => h) (Or.inl ⟨by kernel_rfl, ?_⟩) hT0 ?_; rotate_left 1; focus (intro w hSw; unfold CmpS at hSw; (try dsimp only at hSw); go_simp; try with_reducible rfl); (try simp only [List.getElem_toArray, List.getElem_cons_zero, List.getElem_cons_succ, Act.put, List.setIfInBounds_toArray, List.set_cons_zero, List.set_cons_succ])); (refine wpAnyT_take (i := 4) (v := ?_) rfl (by kernel_rfl) (by kernel_rfl) (by kernel_rfl) (by kernel_rfl) (by exact fun _ _ _ h => h) (Or.inl ⟨by kernel_rfl, ?_⟩) hT0 ?_; rotate_left 1; focus (intro w hSw; unfold CmpS at hSw; (try dsimp only at hSw); go_simp; try with_reducible rfl); (try simp only [List.getElem_toArray, List.getElem_cons_zero, List.getElem_cons_succ, Act.put, List.setIfInBounds_toArray, List.set_cons_zero, List.set_cons_succ])); (refine wpAnyT_take (i := 5) (v := ?_) rfl (by kernel_rfl) (by kernel_rfl) (by kernel_rfl) (by kernel_rfl) (by exact fun _ _ _ h => h) (Or.inl ⟨by kernel_rfl, ?_⟩) hT0 ?_; rotate_left 1; focus (intro w hSw; unfold CmpS at hSw; (try dsimp only at hSw); go_simp; try with_reducible rfl); (try simp only [List.getElem_toArray, List.getElem_cons_zero, List.getElem_cons_succ, Act.put, List.setIfInBounds_toArray, List.set_cons_zero, List.set_cons_succ])); (refine wpAnyT_take (i := 6) (v := ?_) rfl (by kernel_rfl) (by kernel_rfl) (by kernel_rfl) (by kernel_rfl) (by exact fun _ _ _ h => h) (Or.inl ⟨by kernel_rfl, ?_⟩) hT0 ?_; rotate_left 1; focus (intro w hSw; unfold CmpS at hSw; (try dsimp only at hSw); go_simp; try with_reducible rfl); (try simp only [List.getElem_toArray, List.getElem_cons_zero, List.getElem_cons_succ, Act.put, List.setIfInBounds_toArray, List.set_cons_zero, List.set_cons_succ])); (refine wpAnyT_take (i := 7) (v := ?_) rfl (by kernel_rfl) (by kernel_rfl) (by kernel_rfl) (by kernel_rfl) (by exact fun _ _ _ h => h) (Or.inl ⟨by kernel_rfl, ?_⟩) hT0 ?_; rotate_left 1; focus (intro w hSw; unfold CmpS at hSw; (try dsimp only at hSw); go_simp; try with_reducible rfl); (try simp only [List.getElem_toArray, List.getElem_cons_zero, List.getElem_cons_succ, Act.put, List.setIfInBounds_toArray, List.set_cons_zero, List.set_cons_succ])); (refine wpAnyT_take (i := 8) (v := ?_) rfl (by kernel_rfl) (by kernel_rfl) (by kernel_rfl) (by kernel_rfl) (by exact fun _ _ _ h => h) (Or.inl ⟨by kernel_rfl, ?_⟩) hT0 ?_; rotate_left 1; focus (intro w hSw; unfold CmpS at hSw; (try dsimp only at hSw); go_simp; try with_reducible rfl); (try simp only [List.getElem_toArray, List.getElem_cons_zero, List.getElem_cons_succ, Act.put, List.setIfInBounds_toArray, List.set_cons_zero, List.set_cons_succ])); (refine wpAnyT_take (i := 9) (v := ?_) rfl (by kernel_rfl) (by kernel_rfl) (by kernel_rfl) (by kernel_rfl) (by exact fun _ _ _ h => h) (Or.inl ⟨by kernel_rfl, ?_⟩) hT0 ?_; rotate_left 1; focus (intro w hSw; unfold CmpS at hSw; (try dsimp only at hSw); go_simp; try with_reducible rfl); (try simp only [List.getElem_toArray, List.getElem_cons_zero, List.getElem_cons_succ, Act.put, List.setIfInBounds_toArray, List.set_cons_zero, List.set_cons_succ])); (refine wpAnyT_take (i := 10) (v := ?_) rfl (by kernel_rfl) (by kernel_rfl) (by kernel_rfl) (by kernel_rfl) (by exact fun _ _ _ h => h) (Or.inl ⟨by kernel_rfl, ?_⟩) hT0 ?_; rotate_left 1; focus (intro w hSw; unfold CmpS at hSw; (try dsimp only at hSw); go_simp; try with_reducible rfl); (try simp only [List.getElem_toArray, List.getElem_cons_zero, List.getElem_cons_succ, Act.put, List.setIfInBounds_toArray, List.set_cons_zero, List.set_cons_succ])); (refine wpAnyT_take (i := 11) (v := ?_) rfl (by kernel_rfl) (by kernel_rfl) (by kernel_rfl) (by kernel_rfl) (by exact fun _ _ _ h => h) (Or.inl ⟨by kernel_rfl, ?_⟩) hT0 ?_; rotate_left 1; focus (intro w hSw; unfold CmpS at hSw; (try dsimp only at hSw); go_simp; try with_reducible rfl); (try simp only [List.getElem_toArray, List.getElem_cons_zero, List.getElem_cons_succ, Act.put, List.setIfInBounds_toArray, List.set_cons_zero, List.set_cons_succ])); (refine wpAnyT_take (i := 12) (v := ?_) rfl (by kernel_rfl) (by kernel_rfl) (by kernel_rfl) (by kernel_rfl) (by exact fun _ _ _ h => h) (Or.inl ⟨by kernel_rfl, ?_⟩) hT0 ?_; rotate_left 1; focus (intro w hSw; unfold CmpS at hSw; (try dsimp only at hSw); go_simp; try with_reducible rfl); (try simp only [List.getElem_toArray, List.getElem_cons_zero, List.getElem_cons_succ, Act.put, List.setIfInBounds_toArray, List.set_cons_zero, List.set_cons_succ])); (refine wpAnyT_take (i := 13) (v := ?_) rfl (by kernel_rfl) (by kernel_rfl) (by kernel_rfl) (by kernel_rfl) (by exact fun _ _ _ h => h) (Or.inl ⟨by kernel_rfl, ?_⟩) hT0 ?_; rotate_left 1; focus (intro w hSw; unfold CmpS at hSw; (try dsimp only at hSw); go_simp; try with_reducible rfl); (try simp only [List.getElem_toArray, List.getElem_cons_zero, List.getElem_cons_succ, Act.put, List.setIfInBounds_toArray, List.set_cons_zero, List.set_cons_succ])))
          refine wpAnyT_one (i := 14) (by kernel_rfl) rfl (fun K hK => ?_)
          go_simp
          refine (hcm.out ⟨xm, xk, xn, xs, xa, xl, xc, xf, xg, xh⟩ ⟨ym, yk, yn, ys, ya, yl, yc, yf, yg, yh⟩ wr.drew).mono ?_
          rintro e w2 ⟨rfl, h2⟩
          have E2 := hid ((Below.refl wr.heap.size wr).drew.step h2)
          have hT1 := hSS.out w2 E2.out
          clear h2 hT0
          simp only
          (refine hK.out _ _ (fun _ => hT1) (fun _ => ?_); clear hK K; (try simp only [Act.put, List.setIfInBounds_toArray, List.set_cons_zero, List.set_cons_succ]))
          refine wpAnyT_one (i := 15) (by kernel_rfl) rfl (fun K hK => ?_)
          go_simp
          (refine hK.out _ _ (fun _ => hT1) (fun _ => ?_); clear hK K; (try simp only [Act.put, List.setIfInBounds_toArray, List.set_cons_zero, List.set_cons_succ]))
          refine wpAnyT_one (i := 16) (by kernel_rfl) rfl (fun K hK => ?_)
          go_simp
          (refine hK.out _ _ (fun _ => hT1) (fun _ => ?_); clear hK K; (try simp only [Act.put, List.setIfInBounds_toArray, List.set_cons_zero, List.set_cons_succ]))
          refine wpAnyT_done (by kernel_rfl) ?_ _
          clear hT1 hSS
          have hbw := hid (show base ≤ wr.heap.size from by have := hR.out.1; omega)
          have hR2 := hid (hR.out.later E2.out)
          have hB2 := hid (hB.out.trans (E2.out.mono hbw.out))
          by_cases hc : scmp xm ym < 0
          · have hl := hid (hin1.out (hc1.out (by rw [hkey.out]; exact hc)))
            have hcb : decide (scmp xm ym < 0) = true := decide_eq_true hc
            simp only [hcb]
            clear hcb hc1 hc2 hkey hin1 hin2 hR hB
            have hR := hR2
            have hB := hB2
            clear hR2 hB2
            have hS3 := hid (show (swp dj j jp).size = N from by rw [Go.Sort.size_swp, hsd.out])
            have hq := hid (hR.out.swapped (i := j) (j := jp) (by rw [hsd.out]; assumption) (by rw [hsd.out]; assumption) (by assumption))
            have hx := hR.out.cell (i := j) (by rw [hsd.out]; assumption)
            have hy := hR.out.cell (i := jp) (by rw [hsd.out]; assumption)
            have f0 := fun o => hR.out.2.2 o
            generalize dj[j]! = XE at *
            generalize dj[jp]! = YE at *
            obtain ⟨pm, pk, xn, xs, xa, xl, xc, xf, xg, xh⟩ := XE
            obtain ⟨ym, yk, yn, ys, ya, yl, yc, yf, yg, yh⟩ := YE
            obtain ⟨x0, x1, x2, x3, x4, x5⟩ := hx
            obtain ⟨y0, y1, y2, y3, y4, y5⟩ := hy
            simp only at x0 x1 x2 x3 x4 x5 y0 y1 y2 y3 y4 y5
            go_upto_region 6 with fail
            have mixed : Tryd.prog.follows Departure.mixedOrders = true := by kernel_rfl
            go_big_region_o
            clear x0 x1 x2 x3 x4 x5 y0 y1 y2 y3 y4 y5 f0
            change Exit.inBlock _ _ Exit.normal _ (World.drew ((w2.setCells g (off + (j) * 6) (FE.cells ⟨ym, yk, yn, ys, ya, yl, yc, yf, yg, yh⟩)).setCells g (off + (jp) * 6) (FE.cells ⟨pm, pk, xn, xs, xa, xl, xc, xf, xg, xh⟩)))
            have hB2 := hid (hB.out.trans ((below_cells hbase (FE.cells ⟨ym, yk, yn, ys, ya, yl, yc, yf, yg, yh⟩) (off + (j) * 6) w2).trans (below_cells hbase (FE.cells ⟨pm, pk, xn, xs, xa, xl, xc, xf, xg, xh⟩) (off + (jp) * 6) _)))
            generalize (w2.setCells g (off + (j) * 6) (FE.cells ⟨ym, yk, yn, ys, ya, yl, yc, yf, yg, yh⟩)).setCells g (off + (jp) * 6) (FE.cells ⟨pm, pk, xn, xs, xa, xl, xc, xf, xg, xh⟩) = wz at hq hB2 ⊢
            go_wp2_with fail
            go_roundg jp
            case measure => have := hjj.out; omega
            case rel => exact ⟨jp, swp dj j jp, rfl, by have := hjp.out; omega, by have := hjj.out; omega, Nat.le_refl _, hS3, hl, hid (hq.out.later (Below.refl wz.heap.size wz).drew), hid (hB2.out.trans (Below.refl base wz).drew)⟩
          · have hl := hid (hin2.out (hc2.out (by rw [hkey.out]; exact hc)))
            have hcb : decide (scmp xm ym < 0) = false := decide_eq_false hc
            simp only [hcb]
            clear hcb hc1 hc2 hkey hin1 hin2
            go_wp2_with fail
            go_roundg (b - i)
            case measure => omega
            case rel => exact ⟨i + 1, dj, by go_num, by omega, by omega, by omega, hsd, hid (hout.out dj hl.out), hR2, hB2⟩
        · have hjai : ¬ (a : Int) < (j : Int) := by omega
          obtain rfl : j = a := by omega
          have hl : Hid (insInner ltE j i dk = dj) := by
            show _ = _
            rw [hI.out]
            cases j with
            | zero => rfl
            | succ q => rw [insInner, if_neg (by simp)]
          go_upto_region 4 with fail
          refine wp_region_T (fun _ => True) 17 (by kernel_rfl) ?_
          have hT0 : True := trivial
          ((refine wpAnyT_take (i := 0) (v := ?_) rfl (by kernel_rfl) (by kernel_rfl) (by kernel_rfl) (by kernel_rfl) (by exact fun _ _ _ h => h) (Or.inl ⟨by kernel_rfl, ?_⟩) hT0 ?_; rotate_left 1; focus (intro w hSw; (try dsimp only at hSw); go_simp; try with_reducible rfl); (try simp only [List.getElem_toArray, List.getElem_cons_zero, List.getElem_cons_succ, Act.put, List.setIfInBounds_toArray, List.set_cons_zero, List.set_cons_succ])); (refine wpAnyT_take (i := 1) (v := ?_) rfl (by kernel_rfl) (by kernel_rfl) (by kernel_rfl) (by kernel_rfl) (by exact fun _ _ _ h => h) (Or.inl ⟨by kernel_rfl, ?_⟩) hT0 ?_; rotate_left 1; focus (intro w hSw; (try dsimp only at hSw); go_simp; try with_reducible rfl); (try simp only [List.getElem_toArray, List.getElem_cons_zero, List.getElem_cons_succ, Act.put, List.setIfInBounds_toArray, List.set_cons_zero, List.set_cons_succ])); (refine wpAnyT_take (i := 2) (v := ?_) rfl (by kernel_rfl) (by kernel_rfl) (by kernel_rfl) (by kernel_rfl) (by exact fun _ _ _ h => h) (Or.inl ⟨by kernel_rfl, ?_⟩) hT0 ?_; rotate_left 1; focus (intro w hSw; (try dsimp only at hSw); go_simp; try with_reducible rfl); (try simp only [List.getElem_toArray, List.getElem_cons_zero, List.getElem_cons_succ, Act.put, List.setIfInBounds_toArray, List.set_cons_zero, List.set_cons_succ])); (refine wpAnyT_take (i := 3) (v := ?_) rfl (by kernel_rfl) (by kernel_rfl) (by kernel_rfl) (by kernel_rfl) (by exact fun _ _ _ h => h) (Or.inl ⟨by kernel_rfl, ?_⟩) hT0 ?_; rotate_left 1; focus (intro w hSw; (try dsimp only at hSw); go_simp; try with_reducible rfl); (try simp only [List.getElem_toArray, List.getElem_cons_zero, List.getElem_cons_succ, Act.put, List.setIfInBounds_toArray, List.set_cons_zero, List.set_cons_succ])))
          ((refine wpAnyT_take (i := 4) (v := _) rfl (by kernel_rfl) (by kernel_rfl) (by kernel_rfl) (by kernel_rfl) (by exact fun _ _ _ h => h) (Or.inr ⟨by kernel_rfl, rfl⟩) hT0 ?_; (try simp only [List.getElem_toArray, List.getElem_cons_zero, List.getElem_cons_succ, Act.put, List.setIfInBounds_toArray, List.set_cons_zero, List.set_cons_succ])); (refine wpAnyT_take (i := 5) (v := _) rfl (by kernel_rfl) (by kernel_rfl) (by kernel_rfl) (by kernel_rfl) (by exact fun _ _ _ h => h) (Or.inr ⟨by kernel_rfl, rfl⟩) hT0 ?_; (try simp only [List.getElem_toArray, List.getElem_cons_zero, List.getElem_cons_succ, Act.put, List.setIfInBounds_toArray, List.set_cons_zero, List.set_cons_succ])); (refine wpAnyT_take (i := 6) (v := _) rfl (by kernel_rfl) (by kernel_rfl) (by kernel_rfl) (by kernel_rfl) (by exact fun _ _ _ h => h) (Or.inr ⟨by kernel_rfl, rfl⟩) hT0 ?_; (try simp only [List.getElem_toArray, List.getElem_cons_zero, List.getElem_cons_succ, Act.put, List.setIfInBounds_toArray, List.set_cons_zero, List.set_cons_succ])); (refine wpAnyT_take (i := 7) (v := _) rfl (by kernel_rfl) (by kernel_rfl) (by kernel_rfl) (by kernel_rfl) (by exact fun _ _ _ h => h) (Or.inr ⟨by kernel_rfl, rfl⟩) hT0 ?_; (try simp only [List.getElem_toArray, List.getElem_cons_zero, List.getElem_cons_succ, Act.put, List.setIfInBounds_toArray, List.set_cons_zero, List.set_cons_succ])); (refine wpAnyT_take (i := 8) (v := _) rfl (by kernel_rfl) (by kernel_rfl) (by kernel_rfl) (by kernel_rfl) (by exact fun _ _ _ h => h) (Or.inr ⟨by kernel_rfl, rfl⟩) hT0 ?_; (try simp only [List.getElem_toArray, List.getElem_cons_zero, List.getElem_cons_succ, Act.put, List.setIfInBounds_toArray, List.set_cons_zero, List.set_cons_succ])); (refine wpAnyT_take (i := 9) (v := _) rfl (by kernel_rfl) (by kernel_rfl) (by kernel_rfl) (by kernel_rfl) (by exact fun _ _ _ h => h) (Or.inr ⟨by kernel_rfl, rfl⟩) hT0 ?_; (try simp only [List.getElem_toArray, List.getElem_cons_zero, List.getElem_cons_succ, Act.put, List.setIfInBounds_toArray, List.set_cons_zero, List.set_cons_succ])); (refine wpAnyT_take (i := 10) (v := _) rfl (by kernel_rfl) (by kernel_rfl) (by kernel_rfl) (by kernel_rfl) (by exact fun _ _ _ h => h) (Or.inr ⟨by kernel_rfl, rfl⟩) hT0 ?_; (try simp only [List.getElem_toArray, List.getElem_cons_zero, List.getElem_cons_succ, Act.put, List.setIfInBounds_toArray, List.set_cons_zero, List.set_cons_succ])); (refine wpAnyT_take (i := 11) (v := _) rfl (by kernel_rfl) (by kernel_rfl) (by kernel_rfl) (by kernel_rfl) (by exact fun _ _ _ h => h) (Or.inr ⟨by kernel_rfl, rfl⟩) hT0 ?_; (try simp only [List.getElem_toArray, List.getElem_cons_zero, List.getElem_cons_succ, Act.put, List.setIfInBounds_toArray, List.set_cons_zero, List.set_cons_succ])); (refine wpAnyT_take (i := 12) (v := _) rfl (by kernel_rfl) (by kernel_rfl) (by kernel_rfl) (by kernel_rfl) (by exact fun _ _ _ h => h) (Or.inr ⟨by kernel_rfl, rfl⟩) hT0 ?_; (try simp only [List.getElem_toArray, List.getElem_cons_zero, List.getElem_cons_succ, Act.put, List.setIfInBounds_toArray, List.set_cons_zero, List.set_cons_succ])); (refine wpAnyT_take (i := 13) (v := _) rfl (by kernel_rfl) (by kernel_rfl) (by kernel_rfl) (by kernel_rfl) (by exact fun _ _ _ h => h) (Or.inr ⟨by kernel_rfl, rfl⟩) hT0 ?_; (try simp only [List.getElem_toArray, List.getElem_cons_zero, List.getElem_cons_succ, Act.put, List.setIfInBounds_toArray, List.set_cons_zero, List.set_cons_succ])); (refine wpAnyT_take (i := 14) (v := _) rfl (by kernel_rfl) (by kernel_rfl) (by kernel_rfl) (by kernel_rfl) (by exact fun _ _ _ h => h) (Or.inr ⟨by kernel_rfl, rfl⟩) hT0 ?_; (try simp only [List.getElem_toArray, List.getElem_cons_zero, List.getElem_cons_succ, Act.put, List.setIfInBounds_toArray, List.set_cons_zero, List.set_cons_succ])); (refine wpAnyT_take (i := 15) (v := _) rfl (by kernel_rfl) (by kernel_rfl) (by kernel_rfl) (by kernel_rfl) (by exact fun _ _ _ h => h) (Or.inr ⟨by kernel_rfl, rfl⟩) hT0 ?_; (try simp only [List.getElem_toArray, List.getElem_cons_zero, List.getElem_cons_succ, Act.put, List.setIfInBounds_toArray, List.set_cons_zero, List.set_cons_succ])))
          refine wpAnyT_one (i := 16) (by kernel_rfl) rfl (fun K hK => ?_)
          go_simp
          (refine hK.out _ _ (fun _ => trivial) (fun _ => ?_); clear hK K; (try simp only [Act.put, List.setIfInBounds_toArray, List.set_cons_zero, List.set_cons_succ]))
          refine wpAnyT_done (by kernel_rfl) ?_ _
          go_wp2_with fail
          go_roundg (b - i)
          case measure => omega
          case rel => exact ⟨i + 1, dj, by go_num, by omega, by omega, by omega, hsd, hid (hout.out dj hl.out), hid (hR.out.later (Below.refl wr.heap.size wr).drew), hid (hB.out.trans (Below.refl base wr).drew)⟩
    · have hlti : ¬ (i : Int) < (b : Int) := by omega
      have hfin := hid (show dk = RES from by rw [← hO.out, insOuter.eq_def ltE a b i dk, if_neg hlt])
      go_wp2_with fail
      go_end0
      exact ⟨rfl, hB.out, by rw [← hfin.out]; exact hR.out⟩
end Go.Proofs.YtckdgmjekfpcjaaDoor
