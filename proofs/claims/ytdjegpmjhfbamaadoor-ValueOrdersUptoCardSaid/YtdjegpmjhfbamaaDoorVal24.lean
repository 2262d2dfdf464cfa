/-
  Walk: the law ValueOrders.
-/
import Derived.Test.YtdjegpmjhfbamaaDoorVal23
import Derived.Test.YtdjegpmjhfbamaaDoorRef11
namespace Go.Proofs.YtdjegpmjhfbamaaDoor
open Go.RowKit Go.Proofs

set_option maxRecDepth 100000 in
set_option maxHeartbeats 4000000 in
theorem orders_vast (V V' : PVal) (hvb : vast [V, V'] = true) (w : World) (cs cs' : List Value) (hV : Rd w (Now w) V cs) (hV' : Rd w (Now w) V' cs') :
    Calls Tryd.prog 13 #[.agg cs.toArray, .agg cs'.toArray] w fun e w' => e = .returned (.bool true) ∧ Below w.heap.size w w' := by
  have hV0 := hid hV
  have hV0' := hid hV'
  have hv := hid (fun la c' w h => vast_calls [V, V'] la c' w h (by simp))
  rw [hvb] at hv
  obtain ⟨k, n, s, l, fn, fv⟩ := V
  obtain ⟨k', n', s', l', fn', fv'⟩ := V'
  obtain ⟨la, lc, fa, fc, rfl, _⟩ := hV.inv
  obtain ⟨la', lc', fa', fc', rfl, _⟩ := hV'.inv
  clear hV hV' hvb
  go_enter Tryd.func13, Tryd.ntmps13
  go_wp2_with fail
  refine (hv.out (some ⟨w.heap.size + 1 + 1, 0, none⟩) 2 _ (rdL_block (css := [[.int .i64 k, .int .i64 n, .string s, .slice la l.length lc, .slice fa fv.length fc], [.int .i64 k', .int .i64 n', .string s', .slice la' l'.length lc', .slice fa' fv'.length fc']]) rfl rfl rfl (two_rd (hV0.out.later (((below_new _ _).step (below_new _ _)).step (below_new _ _))) (hV0'.out.later (((below_new _ _).step (below_new _ _)).step (below_new _ _)))) (blk_new (by simp)) (by simp))).mono ?_
  rintro e w1 ⟨rfl, h1⟩
  go_wp2_with fail
  go_ret
  exact ⟨rfl, (((below_new _ _).step (below_new _ _)).step (below_new _ _)).step h1⟩

set_option maxRecDepth 100000 in
set_option maxHeartbeats 8000000 in
theorem orders_few (V V' : PVal) (hvb : vast [V, V'] = false) (hm : V.mass ≤ 1073741824) (hm' : V'.mass ≤ 1073741824) (w : World) (cs cs' : List Value) (hT : Tabs w) (hV : Rd w (Now w) V cs) (hV' : Rd w (Now w) V' cs') :
    Calls Tryd.prog 13 #[.agg cs.toArray, .agg cs'.toArray] w fun e w' => e = .returned (.bool true) ∧ Below w.heap.size w w' := by
  have hT := hid (fun w' hb => Tabs.stays w w' hT hb)
  have hV0 := hid hV
  have hV0' := hid hV'
  have hv := hid (fun la c' w h => vast_calls [V, V'] la c' w h (by simp))
  rw [hvb] at hv
  have hnl : ¬ 5000 ≤ nodesL [V, V'] := of_decide_eq_false hvb
  simp only [nodesL] at hnl
  have hN : V.nodes ≤ 20000 := by omega
  have hN' : V'.nodes ≤ 20000 := by omega
  have g1 := hid (fun w cs cs' hT h h' => compare_tells V V' w cs cs' hN hN' hT h h')
  have g2 := hid (fun w cs hT h => hash_tells V w cs hN hT h)
  have g3 := hid (fun w cs h => rgood_calls V hN hm w cs h)
  have g4 := hid (fun w cs h => rgood_calls V' hN' hm' w cs h)
  have hel := enc_le V hV.fits
  have hel' : V.enc.length ≤ 140737488355328 := by omega
  have g8 := hid (fun w cs h => rbytes_calls V w cs hel' h)
  have g9 : Hid (V.good = 0 → V'.good = 0 → ∀ (w : World) (cs cs' : List Value), Rd w (Now w) V cs → Rd w (Now w) V' cs' → _) := fun h h' w cs cs' => rcompare_calls V V' w cs cs' (good_formed h) (good_formed h')
  have haw := hid awake_calls
  have gm := hid (fun (g c : Nat) (w : World) => rmore_calls 14695981039346656037 V.enc hel' g c w)
  have gf := hid first_calls
  clear hel
  generalize cmpV V V' = X at *
  generalize V.good = ga at *
  generalize V'.good = gb at *
  generalize V.enc = en at *
  generalize mix 14695981039346656037 en = hh at *
  obtain ⟨oe, hoe⟩ : ∃ e, e = orI [ga, gb] := ⟨_, rfl⟩
  rw [← hoe] at g1
  obtain ⟨ox, hox⟩ : ∃ x, x = (if oe = 0 then X else 0) := ⟨_, rfl⟩
  rw [← hox] at g1
  obtain ⟨oh, hoh⟩ : ∃ x, x = (if ga = 0 then hh else 0) := ⟨_, rfl⟩
  rw [← hoh] at g2
  replace hoe := hid hoe
  replace hox := hid hox
  replace hoh := hid hoh
  replace hel' := hid hel'
  obtain ⟨k, n, s, l, fn, fv⟩ := V
  obtain ⟨k', n', s', l', fn', fv'⟩ := V'
  obtain ⟨la, lc, fa, fc, rfl, _⟩ := hV.inv
  obtain ⟨la', lc', fa', fc', rfl, _⟩ := hV'.inv
  clear hV hV' hvb hnl
  have hW2 : Hid (Below w.heap.size w ((w.alloc (.cells #[.int .i64 k, .int .i64 n, .string s, .slice la l.length lc, .slice fa fv.length fc] 52)).alloc (.cells #[.int .i64 k', .int .i64 n', .string s', .slice la' l'.length lc', .slice fa' fv'.length fc'] 52))) := (below_new _ _).step (below_new _ _)
  go_enter Tryd.func13, Tryd.ntmps13
  go_wp2_with fail
  refine (hv.out (some ⟨w.heap.size + 1 + 1, 0, none⟩) 2 _ (rdL_block (css := [[.int .i64 k, .int .i64 n, .string s, .slice la l.length lc, .slice fa fv.length fc], [.int .i64 k', .int .i64 n', .string s', .slice la' l'.length lc', .slice fa' fv'.length fc']]) rfl rfl rfl (two_rd (hV0.out.later (((below_new _ _).step (below_new _ _)).step (below_new _ _))) (hV0'.out.later (((below_new _ _).step (below_new _ _)).step (below_new _ _)))) (blk_new (by simp)) (by simp))).mono ?_
  rintro e w1 ⟨rfl, h1⟩
  have N := hid ((below_new ((w.alloc (.cells #[.int .i64 k, .int .i64 n, .string s, .slice la l.length lc, .slice fa fv.length fc] 52)).alloc (.cells #[.int .i64 k', .int .i64 n', .string s', .slice la' l'.length lc', .slice fa' fv'.length fc'] 52)) _).step h1)
  have D := hid (hW2.out.step N.out)
  obtain ⟨kA, kB⟩ := two_cells N.out
  have A0 := kA 0 _ rfl
  have A1 := kA 1 _ rfl
  have A2 := kA 2 _ rfl
  have A3 := kA 3 _ rfl
  have A4 := kA 4 _ rfl
  have B0 := kB 0 _ rfl
  have B1 := kB 1 _ rfl
  have B2 := kB 2 _ rfl
  have B3 := kB 3 _ rfl
  have B4 := kB 4 _ rfl
  clear kA kB
  go_wp2_with fail
  refine (g1.out _ _ _ (hT.out _ D.out) (hV0.out.later D.out) (hV0'.out.later D.out)).mono ?_
  rintro e w2 ⟨rfl, h2⟩
  replace N := hid (N.out.step h2)
  replace D := hid (D.out.step h2)
  clear A0 A1 A2 A3 A4 B0 B1 B2 B3 B4
  obtain ⟨kA, kB⟩ := two_cells N.out
  have A0 := kA 0 _ rfl
  have A1 := kA 1 _ rfl
  have A2 := kA 2 _ rfl
  have A3 := kA 3 _ rfl
  have A4 := kA 4 _ rfl
  have B0 := kB 0 _ rfl
  have B1 := kB 1 _ rfl
  have B2 := kB 2 _ rfl
  have B3 := kB 3 _ rfl
  have B4 := kB 4 _ rfl
  clear kA kB
  go_wp2_with fail
  refine (g2.out _ _ (hT.out _ D.out) (hV0.out.later D.out)).mono ?_
  rintro e w3 ⟨rfl, h3⟩
  replace N := hid (N.out.step h3)
  replace D := hid (D.out.step h3)
  clear A0 A1 A2 A3 A4 B0 B1 B2 B3 B4
  go_wp2_with fail
  refine (haw.out _ (hT.out _ D.out)).mono ?_
  rintro e w4 ⟨rfl, h4⟩
  replace N := hid (N.out.step h4)
  replace D := hid (D.out.step h4)
  obtain ⟨kA, kB⟩ := two_cells N.out
  have A0 := kA 0 _ rfl
  have A1 := kA 1 _ rfl
  have A2 := kA 2 _ rfl
  have A3 := kA 3 _ rfl
  have A4 := kA 4 _ rfl
  clear kA kB
  go_wp2_with fail
  refine (g3.out _ _ (hV0.out.later D.out)).mono ?_
  rintro e w5 ⟨rfl, h5⟩
  replace N := hid (N.out.step h5)
  replace D := hid (D.out.step h5)
  clear A0 A1 A2 A3 A4
  by_cases hga : ga = 0
  case neg =>
    have b1 : (ga != 0) = true := by simp [hga]
    obtain rfl : oe = ga := by rw [hoe.out, or2_left hga]
    obtain rfl : ox = 0 := by rw [hox.out, if_neg hga]
    obtain rfl : oh = 0 := by rw [hoh.out, if_neg hga]
    go_wp2_with fail
    go_ret
    exact ⟨by simp, D.out⟩
  subst hga
  obtain rfl : oh = hh := by rw [hoh.out, if_pos rfl]
  obtain rfl : oe = gb := by rw [hoe.out, or2_right rfl]
  have hkS : Hid (∀ x, Below ((w.alloc (.cells #[.int .i64 k, .int .i64 n, .string s, .slice la l.length lc, .slice fa fv.length fc] 52)).alloc (.cells #[.int .i64 k', .int .i64 n', .string s', .slice la' l'.length lc', .slice fa' fv'.length fc'] 52)).heap.size ((w.alloc (.cells #[.int .i64 k, .int .i64 n, .string s, .slice la l.length lc, .slice fa fv.length fc] 52)).alloc (.cells #[.int .i64 k', .int .i64 n', .string s', .slice la' l'.length lc', .slice fa' fv'.length fc'] 52)) x → x.cell? ⟨w.heap.size, 0, none⟩ = some (.int .i64 k) ∧ x.cell? ⟨w.heap.size, 1, none⟩ = some (.int .i64 n) ∧ x.cell? ⟨w.heap.size, 2, none⟩ = some (.string s) ∧ x.cell? ⟨w.heap.size, 3, none⟩ = some (.slice la l.length lc) ∧ x.cell? ⟨w.heap.size, 4, none⟩ = some (.slice fa fv.length fc)) :=
    fun x h => ⟨(two_cells h).1 0 _ rfl, (two_cells h).1 1 _ rfl, (two_cells h).1 2 _ rfl, (two_cells h).1 3 _ rfl, (two_cells h).1 4 _ rfl⟩
  obtain ⟨kA, kB⟩ := two_cells N.out
  have A0 := kA 0 _ rfl
  have A1 := kA 1 _ rfl
  have A2 := kA 2 _ rfl
  have A3 := kA 3 _ rfl
  have A4 := kA 4 _ rfl
  clear kA kB
  go_upto_region 10 with fail
  go_cut [56] from 47 to 56 (fun c wx => c = .bool false ∧ Below ((w.alloc (.cells #[.int .i64 k, .int .i64 n, .string s, .slice la l.length lc, .slice fa fv.length fc] 52)).alloc (.cells #[.int .i64 k', .int .i64 n', .string s', .slice la' l'.length lc', .slice fa' fv'.length fc'] 52)).heap.size ((w.alloc (.cells #[.int .i64 k, .int .i64 n, .string s, .slice la l.length lc, .slice fa fv.length fc] 52)).alloc (.cells #[.int .i64 k', .int .i64 n', .string s', .slice la' l'.length lc', .slice fa' fv'.length fc'] 52)) wx)
  case first =>
    go_region_held3 (fun x => x.cell? ⟨w.heap.size, 0, none⟩ = some (.int .i64 k) ∧ x.cell? ⟨w.heap.size, 1, none⟩ = some (.int .i64 n) ∧ x.cell? ⟨w.heap.size, 2, none⟩ = some (.string s) ∧ x.cell? ⟨w.heap.size, 3, none⟩ = some (.slice la l.length lc) ∧ x.cell? ⟨w.heap.size, 4, none⟩ = some (.slice fa fv.length fc))
      (first | exact hkS.out _ N.out.drew | exact hkS.out _ (N.out.drew.step hm6.below) | go_keep)
      (first
        | (go_at_call 51; refine (gf.out _).mono ?_; rintro e w6 ⟨rfl, rfl⟩)
        | (go_at_call 47; refine (g8.out _ _ (hV0.out.later D.out.drew)).mono ?_; rintro e w7 ⟨v7, rfl, g7, c7, rfl, hm6⟩)
        | (go_at_call 50; refine (gm.out g7 c7 _ hm6.src).mono ?_; rintro e w8 ⟨rfl, rfl⟩))
    all_goals (go_wp2_with fail; go_meet; exact ⟨rfl, N.out.drew.step hm6.below⟩)
  case rest =>
    obtain ⟨rfl, hN⟩ := hcut
    replace N := hid hN
    replace D := hid (hW2.out.step hN)
    clear hN A0 A1 A2 A3 A4
    obtain ⟨kA, kB⟩ := two_cells N.out
    have A0 := kA 0 _ rfl
    have A1 := kA 1 _ rfl
    have A2 := kA 2 _ rfl
    have A3 := kA 3 _ rfl
    have A4 := kA 4 _ rfl
    have B0 := kB 0 _ rfl
    have B1 := kB 1 _ rfl
    have B2 := kB 2 _ rfl
    have B3 := kB 3 _ rfl
    have B4 := kB 4 _ rfl
    clear kA kB
    go_wp2_with fail
    refine (g4.out _ _ (hV0'.out.later D.out)).mono ?_
    rintro e w9 ⟨rfl, h9⟩
    replace N := hid (N.out.step h9)
    replace D := hid (D.out.step h9)
    clear A0 A1 A2 A3 A4 B0 B1 B2 B3 B4
    by_cases hgb : oe = 0
    case neg =>
      have b1 : (oe != 0) = true := by simp [hgb]
      have b2 : (oe == 0) = false := by simp [hgb]
      obtain rfl : ox = 0 := by rw [hox.out, if_neg hgb]
      go_wp2_with fail
      go_ret
      exact ⟨by simp, D.out⟩
    subst hgb
    obtain rfl : ox = X := by rw [hox.out, if_pos rfl]
    obtain ⟨kA, kB⟩ := two_cells N.out
    have A0 := kA 0 _ rfl
    have A1 := kA 1 _ rfl
    have A2 := kA 2 _ rfl
    have A3 := kA 3 _ rfl
    have A4 := kA 4 _ rfl
    have B0 := kB 0 _ rfl
    have B1 := kB 1 _ rfl
    have B2 := kB 2 _ rfl
    have B3 := kB 3 _ rfl
    have B4 := kB 4 _ rfl
    clear kA kB
    go_wp2_with fail
    refine (g9.out (by first | exact rfl | exact trivial) (by first | exact rfl | exact trivial) _ _ _ (hV0.out.later D.out) (hV0'.out.later D.out)).mono ?_
    rintro e w10 ⟨rfl, h10⟩
    go_wp2_with fail
    go_ret
    exact ⟨by simp, D.out.step h10⟩
theorem orders_calls (V V' : PVal) (hm : V.mass ≤ 1073741824) (hm' : V'.mass ≤ 1073741824) (w : World) (cs cs' : List Value) (hT : Tabs w) (hV : Rd w (Now w) V cs) (hV' : Rd w (Now w) V' cs') :
    Calls Tryd.prog 13 #[.agg cs.toArray, .agg cs'.toArray] w fun e w' => e = .returned (.bool true) ∧ Below w.heap.size w w' := by
  cases h : vast [V, V'] with
  | true => exact orders_vast V V' h w cs cs' hV hV'
  | false => exact orders_few V V' h hm hm' w cs cs' hT hV hV'
end Go.Proofs.YtdjegpmjhfbamaaDoor
