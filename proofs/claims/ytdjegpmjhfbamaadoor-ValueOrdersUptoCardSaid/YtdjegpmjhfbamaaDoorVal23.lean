/-
  Walk: the law ValueGood.
-/
import Derived.Test.YtdjegpmjhfbamaaDoorVal22
import Derived.Test.YtdjegpmjhfbamaaDoorVal19
import Derived.Test.YtdjegpmjhfbamaaDoorQuiet
import Derived.Test.YtdjegpmjhfbamaaDoorRef9
namespace Go.Proofs.YtdjegpmjhfbamaaDoor
open Go.RowKit Go.Proofs

set_option maxRecDepth 100000 in
set_option maxHeartbeats 4000000 in
theorem goods_calls (V : PVal) (hm : V.mass ≤ 1073741824) (w : World) (cs : List Value) (hT : Tabs w) (hV : Rd w (Now w) V cs) :
    Calls Tryd.prog 12 #[.agg cs.toArray] w fun e w' => e = .returned (.bool true) ∧ Below w.heap.size w w' := by
  have hT := hid (fun w' hb => Tabs.stays w w' hT hb)
  have hV0 := hid hV
  have hv := hid (fun la c' w h => vast_calls [V] la c' w h (by simp))
  cases hvb : vast [V] with
  | true =>
    rw [hvb] at hv
    obtain ⟨k, n, s, l, fn, fv⟩ := V
    obtain ⟨la, lc, fa, fc, rfl, _⟩ := hV.inv
    clear hV hvb
    go_enter Tryd.func12, Tryd.ntmps12
    go_wp2_with fail
    refine (hv.out (some ⟨w.heap.size + 1, 0, none⟩) 1 _ (rdL_block (css := [[.int .i64 k, .int .i64 n, .string s, .slice la l.length lc, .slice fa fv.length fc]]) rfl rfl rfl (one_rd (hV0.out.later ((below_new _ _).step (below_new _ _)))) (blk_new (by simp)) (by simp))).mono ?_
    rintro e w1 ⟨rfl, h1⟩
    go_wp2_with fail
    go_ret
    exact ⟨rfl, ((below_new _ _).step (below_new _ _)).step h1⟩
  | false =>
    rw [hvb] at hv
    have hnl : ¬ 5000 ≤ nodesL [V] := of_decide_eq_false hvb
    have hN : V.nodes ≤ 20000 := by
      rw [nodesL, nodesL] at hnl
      omega
    have g1 := hid (fun w cs hT h => size_tells V w cs hN hT h)
    have g2 := hid (fun w cs h => rgood_calls V hN hm w cs h)
    have g3 := hid (fun w cs hT h => good_calls V w cs hN hT h)
    have g4 := hid (fun w cs h => depth_calls V w cs hN h)
    have g5 := hid (fun w cs h => rdepth_calls V w cs hN h)
    have g6 := hid (fun w cs h => count_calls V w cs hN h)
    have g7 := hid (fun w cs h => rcount_calls V w cs hN h)
    have hel := enc_le V hV.fits
    have g8 := hid (fun w cs h => rbytes_calls V w cs (by omega) h)
    rw [size_enc V hV.fits] at g1
    have haw := hid awake_calls
    generalize V.good = g at *
    generalize V.depth = d at *
    generalize V.count = c at *
    generalize V.enc = en at *
    obtain ⟨z, hz⟩ : ∃ z : Int, z = (if g = 0 then (en.length : Int) else 0) := ⟨_, rfl⟩
    rw [← hz] at g1
    replace hz := hid hz
    obtain ⟨k, n, s, l, fn, fv⟩ := V
    obtain ⟨la, lc, fa, fc, rfl, _⟩ := hV.inv
    clear hV hvb hnl
    go_enter Tryd.func12, Tryd.ntmps12
    go_wp2_with fail
    refine (hv.out (some ⟨w.heap.size + 1, 0, none⟩) 1 _ (rdL_block (css := [[.int .i64 k, .int .i64 n, .string s, .slice la l.length lc, .slice fa fv.length fc]]) rfl rfl rfl (one_rd (hV0.out.later ((below_new _ _).step (below_new _ _)))) (blk_new (by simp)) (by simp))).mono ?_
    rintro e w1 ⟨rfl, h1⟩
    have N := hid ((below_new (w.alloc (.cells #[.int .i64 k, .int .i64 n, .string s, .slice la l.length lc, .slice fa fv.length fc] 52)) _).step h1)
    have a0 := box_cell (j := 0) N.out rfl
    have a1 := box_cell (j := 1) N.out rfl
    have a2 := box_cell (j := 2) N.out rfl
    have a3 := box_cell (j := 3) N.out rfl
    have a4 := box_cell (j := 4) N.out rfl
    go_wp2_with fail
    refine (g1.out _ _ (hT.out _ ((below_new _ _).step N.out)) (hV0.out.later ((below_new _ _).step N.out))).mono ?_
    rintro e w2 ⟨rfl, h2⟩
    replace N := hid (N.out.step h2)
    clear a0 a1 a2 a3 a4
    have a0 := box_cell (j := 0) N.out rfl
    have a1 := box_cell (j := 1) N.out rfl
    have a2 := box_cell (j := 2) N.out rfl
    have a3 := box_cell (j := 3) N.out rfl
    have a4 := box_cell (j := 4) N.out rfl
    go_wp2_with fail
    refine (g2.out _ _ (hV0.out.later ((below_new _ _).step N.out))).mono ?_
    rintro e w3 ⟨rfl, h3⟩
    replace N := hid (N.out.step h3)
    clear a0 a1 a2 a3 a4
    have a0 := box_cell (j := 0) N.out rfl
    have a1 := box_cell (j := 1) N.out rfl
    have a2 := box_cell (j := 2) N.out rfl
    have a3 := box_cell (j := 3) N.out rfl
    have a4 := box_cell (j := 4) N.out rfl
    have D := hid ((below_new _ _).step N.out)
    have q1 := hid (fun (p : Later w3) => haw.out p.x (hT.out _ (D.out.step p.h)))
    have q3 := hid (fun (p : Later w3) => g3.out p.x _ (hT.out _ (D.out.step p.h)) (hV0.out.later (D.out.step p.h)))
    have q4 := hid (fun (p : Later w3) => g4.out p.x _ (hV0.out.later (D.out.step p.h)))
    have q5 := hid (fun (p : Later w3) => g5.out p.x _ (hV0.out.later (D.out.step p.h)))
    have q6 := hid (fun (p : Later w3) => g6.out p.x _ (hV0.out.later (D.out.step p.h)))
    have q7 := hid (fun (p : Later w3) => g7.out p.x _ (hV0.out.later (D.out.step p.h)))
    replace a0 := Later.cell a0
    replace a1 := Later.cell a1
    replace a2 := Later.cell a2
    replace a3 := Later.cell a3
    replace a4 := Later.cell a4
    go_wp2_with fail
    refine wp_later (by kernel_rfl) (by kernel_rfl) ?_
    repeat (go_big_quiet_step ((first
      | (go_at_call 32; exact later_calls _ (q1.out _))
      | (go_at_call 39; exact later_calls _ (q3.out _))
      | (go_at_call 43; exact later_calls _ (q4.out _))
      | (go_at_call 44; exact later_calls _ (q5.out _))
      | (go_at_call 45; exact later_calls _ (q6.out _))
      | (go_at_call 46; exact later_calls _ (q7.out _)))))
    refine wpQuiet_nil ?_
    intro _ hw'
    obtain ⟨p, hp⟩ := hw'
    subst hp
    clear a0 a1 a2 a3 a4
    replace N := hid (N.out.step p.h)
    have a0 := box_cell (j := 0) N.out rfl
    have a1 := box_cell (j := 1) N.out rfl
    have a2 := box_cell (j := 2) N.out rfl
    have a3 := box_cell (j := 3) N.out rfl
    have a4 := box_cell (j := 4) N.out rfl
    replace D := hid (D.out.step p.h)
    by_cases hg : g = 0
    · subst hg
      obtain rfl : z = (en.length : Int) := by rw [hz.out, if_pos rfl]
      go_wp2_with fail
      refine (g8.out _ _ (hV0.out.later D.out)).mono ?_
      rintro e w4 ⟨v, rfl, g', cap, rfl, hm4⟩
      go_wp2_with fail
      go_ret
      exact ⟨by simp, D.out.step hm4.below⟩
    · have b1 : (g != 0) = true := by simp [hg]
      obtain rfl : z = 0 := by rw [hz.out, if_neg hg]
      go_wp2_with fail
      go_ret
      exact ⟨by simp, D.out⟩
end Go.Proofs.YtdjegpmjhfbamaaDoor
