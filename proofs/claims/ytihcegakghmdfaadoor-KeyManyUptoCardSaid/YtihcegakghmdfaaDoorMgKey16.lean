/-
  Walk: the law KeyOrders.
-/
import Derived.Test.YtihcegakghmdfaaDoorMgKey13
import Derived.Test.YtihcegakghmdfaaDoorMgVal10
import Derived.Test.YtihcegakghmdfaaDoorMgVal19
namespace Go.Proofs.YtihcegakghmdfaaDoor
open Go.RowKit Go.Proofs

theorem key_order {a b : PVal} (ha : a.good = 0) (hb : b.good = 0) (fa : a.fits) (fb : b.fits) : cb a.key b.key = cmpV a b := by
  have := cb_key a b [] [] (good_form ha).1 (good_form hb).1 fa fb
  rw [List.append_nil, List.append_nil] at this
  rw [this, show cb [] [] = 0 from rfl, lex_zero_right]
theorem starts_spec {l m : List UInt8} (h : starts l m = true) : ∃ t, m ++ t = l := by
  unfold starts at h
  simp only [Bool.and_eq_true, decide_eq_true_eq, beq_iff_eq] at h
  refine ⟨l.drop m.length, ?_⟩
  conv => rhs; rw [← List.take_append_drop m.length l, h.2]
theorem key_starts {a b : PVal} (ha : a.good = 0) (hb : b.good = 0) (fa : a.fits) (fb : b.fits) (h : cmpV a b ≠ 0) : starts a.key b.key = false ∧ starts b.key a.key = false := by
  constructor
  · cases hs : starts a.key b.key with
    | false => rfl
    | true =>
      obtain ⟨t, ht⟩ := starts_spec hs
      exact absurd ht (key_prefix (good_form hb).1 (good_form ha).1 fb fa (by rw [cmpV_anti]; omega) t)
  · cases hs : starts b.key a.key with
    | false => rfl
    | true =>
      obtain ⟨t, ht⟩ := starts_spec hs
      exact absurd ht (key_prefix (good_form ha).1 (good_form hb).1 fa fb h t)
theorem split_one {a : PVal} (ha : a.good = 0) (fa : a.fits) : splitP a.key 1 = some [a] := by
  have h := seqK_ok [a] [] (fun x hx => by rw [List.mem_singleton.1 hx]; exact ⟨ha, fa⟩)
  rw [keysP_one, List.append_nil] at h
  exact splitP_yes h (by rw [badI_one]; exact ha) (keysP_one a)

set_option maxRecDepth 100000 in
set_option maxHeartbeats 4000000 in
theorem orders_calls (a b : PVal) (hma : a.mass ≤ 1073741824) (hmb : b.mass ≤ 1073741824) {w : World} {ca cb' : List Value} (hT : Tabs w) (hA : Rd w (Now w) a ca) (hB : Rd w (Now w) b cb') :
    Calls Tryd.prog 15 #[.agg ca.toArray, .agg cb'.toArray] w fun e w' => e = .returned (.bool true) ∧ Below w.heap.size w w' := by
  have hT := hid (fun w' hb => Tabs.stays w w' hT hb)
  have hA0 := hid hA
  have hB0 := hid hB
  have haw := hid awake5_calls
  have hv := hid (fun la c' w h => vast_calls [a, b] la c' w h (by simp))
  have fa := hA.fits
  have fb := hB.fits
  have hoa := hid (fun w cs hT h => of_calls a (by omega) w cs hT h)
  have hob := hid (fun w cs hT h => of_calls b (by omega) w cs hT h)
  unfold Oft at hoa hob
  have hka := key_le a
  have hkb := key_le b
  have hcmp := hid (fun hN hN' w cs cs' hT h h' => compare_tells a b w cs cs' hN hN' hT h h')
  have hsame := hid (fun w cs cs' => same_calls a a true (by simp) w cs cs')
  have hmain : a.good = 0 → b.good = 0 → Hid (cb a.key b.key = cmpV a b) ∧ Hid (cmpV a b ≠ 0 → starts a.key b.key = false ∧ starts b.key a.key = false) ∧ Hid (∀ (w' : World) (bv : Value), BytesAt w' (Now w') a.key bv → Tabs w' → Calls Tryd.prog 19 #[bv] w' fun e w2 => ∃ cs, e = .returned (.tuple #[.agg cs.toArray, .int .i64 0]) ∧ Below w'.heap.size w' w2 ∧ Rd w2 (From w'.heap.size w2) a cs) := fun ga gb =>
    ⟨key_order ga gb fa fb, fun h => key_starts ga gb fa fb h, fun w' bv h hT => by
      have := back_tells h hT (by omega)
      rw [split_one ga fa] at this
      refine this.mono ?_
      rintro e w2 ⟨cs, rfl, h1, h2, _⟩
      exact ⟨cs, rfl, h1, h2⟩⟩
  replace hmain := hid hmain
  have hnod : vast [a, b] = false → a.nodes ≤ 20000 ∧ b.nodes ≤ 20000 := fun hvb => by
    have hnl : ¬ 5000 ≤ nodesL [a, b] := of_decide_eq_false hvb
    rw [nodesL, nodesL, nodesL] at hnl
    omega
  replace hnod := hid hnod
  obtain ⟨X, hX⟩ : ∃ X, (if a.good = 0 then a.key else []) = X := ⟨_, rfl⟩
  obtain ⟨Y, hY⟩ : ∃ Y, (if b.good = 0 then b.key else []) = Y := ⟨_, rfl⟩
  rw [hX] at hoa
  rw [hY] at hob
  replace hX := hid hX
  replace hY := hid hY
  clear hka hkb fa fb hma hmb
  generalize hGA : a.good = GA at *
  generalize hGB : b.good = GB at *
  generalize hKA : a.key = KA at *
  generalize hKB : b.key = KB at *
  clear hGA hGB hKA hKB
  generalize vast [a, b] = VV at *
  generalize cmpV a b = C at *
  obtain ⟨ak, an, atx, al, afn, afv⟩ := a
  obtain ⟨aa, ac, af, ag, rfl, _⟩ := hA.inv
  obtain ⟨bk, bn, btx, bl, bfn, bfv⟩ := b
  obtain ⟨ba, bc, bf, bg, rfl, _⟩ := hB.inv
  clear hA hB
  obtain ⟨W2, hW2⟩ : ∃ W2, W2 = (w.alloc (.cells #[.int .i64 ak, .int .i64 an, .string atx, .slice aa al.length ac, .slice af afv.length ag] 25)).alloc (.cells #[.int .i64 bk, .int .i64 bn, .string btx, .slice ba bl.length bc, .slice bf bfv.length bg] 25) := ⟨_, rfl⟩
  have D0 : Hid (Below w.heap.size w W2) := by show Below _ _ _; rw [hW2]; exact (below_new _ _).step (below_new _ _)
  have hrow : Hid (∀ w', Below W2.heap.size W2 w' → w'.heap[w.heap.size]? = some (.cells #[.int .i64 ak, .int .i64 an, .string atx, .slice aa al.length ac, .slice af afv.length ag] 25 (0, 0)) ∧ w'.heap[w.heap.size + 1]? = some (.cells #[.int .i64 bk, .int .i64 bn, .string btx, .slice ba bl.length bc, .slice bf bfv.length bg] 25 (0, 0))) := fun w' hb => by
    have h1 : W2.heap[w.heap.size]? = some (.cells #[.int .i64 ak, .int .i64 an, .string atx, .slice aa al.length ac, .slice af afv.length ag] 25 (0, 0)) := by rw [hW2]; exact al_old (al_at rfl)
    have h2 : W2.heap[w.heap.size + 1]? = some (.cells #[.int .i64 bk, .int .i64 bn, .string btx, .slice ba bl.length bc, .slice bf bfv.length bg] 25 (0, 0)) := by rw [hW2]; exact al_at (by simp)
    exact ⟨(hb.block _ (lt_of_block h1)).trans h1, (hb.block _ (lt_of_block h2)).trans h2⟩
  go_enter Tryd.func15, Tryd.ntmps15
  go_wp2_with fail
  rw [← hW2]
  clear hW2
  refine (haw.out _ (hT.out _ D0.out)).mono ?_
  rintro e w1 ⟨rfl, h1⟩
  have N := hid h1
  clear h1
  obtain ⟨q0, q1⟩ := hrow.out _ N.out
  have a0 := box_at (j := 0) q0 rfl
  have a1 := box_at (j := 1) q0 rfl
  have a2 := box_at (j := 2) q0 rfl
  have a3 := box_at (j := 3) q0 rfl
  have a4 := box_at (j := 4) q0 rfl
  have b0 := box_at (j := 0) q1 rfl
  have b1 := box_at (j := 1) q1 rfl
  have b2 := box_at (j := 2) q1 rfl
  have b3 := box_at (j := 3) q1 rfl
  have b4 := box_at (j := 4) q1 rfl
  clear q0 q1
  go_wp2_with fail
  refine (hv.out (some ⟨w1.heap.size, 0, none⟩) 2 _ (rdL_block (css := [[.int .i64 ak, .int .i64 an, .string atx, .slice aa al.length ac, .slice af afv.length ag], [.int .i64 bk, .int .i64 bn, .string btx, .slice ba bl.length bc, .slice bf bfv.length bg]]) rfl rfl rfl (two_rd (hA0.out.later (D0.out.step (N.out.step (below_new _ _)))) (hB0.out.later (D0.out.step (N.out.step (below_new _ _))))) (blk_new rfl) (by simp))).mono ?_
  rintro e w2 ⟨rfl, h2⟩
  replace N := hid (N.out.step ((below_new _ _).step h2))
  clear h2
  clear a0 a1 a2 a3 a4 b0 b1 b2 b3 b4
  cases VV with
  | true =>
    go_wp2_with fail
    go_ret
    exact ⟨rfl, D0.out.step N.out⟩
  | false =>
  obtain ⟨hNa, hNb⟩ := hnod.out rfl
  obtain ⟨q0, q1⟩ := hrow.out _ N.out
  have a0 := box_at (j := 0) q0 rfl
  have a1 := box_at (j := 1) q0 rfl
  have a2 := box_at (j := 2) q0 rfl
  have a3 := box_at (j := 3) q0 rfl
  have a4 := box_at (j := 4) q0 rfl
  clear q0 q1
  go_wp2_with fail
  refine (hoa.out _ _ (hT.out _ (D0.out.step N.out)) (hA0.out.later (D0.out.step N.out))).mono ?_
  rintro e w3 ⟨x, rfl, hx⟩
  replace N := hid (N.out.step hx.1)
  have hxb : BytesAt w3 (Now w3) X x := hx.bytes.keep (fun b hb => hb.2) (fun _ _ => rfl)
  obtain ⟨xa, xc, rfl, _⟩ := id hxb
  replace hxb := hid hxb
  clear hx
  clear a0 a1 a2 a3 a4
  obtain ⟨q0, q1⟩ := hrow.out _ N.out
  have b0 := box_at (j := 0) q1 rfl
  have b1 := box_at (j := 1) q1 rfl
  have b2 := box_at (j := 2) q1 rfl
  have b3 := box_at (j := 3) q1 rfl
  have b4 := box_at (j := 4) q1 rfl
  clear q0 q1
  go_wp2_with fail
  refine (hob.out _ _ (hT.out _ (D0.out.step N.out)) (hB0.out.later (D0.out.step N.out))).mono ?_
  rintro e w4 ⟨y, rfl, hy⟩
  replace N := hid (N.out.step hy.1)
  replace hxb := hid (hxb.out.later hy.1)
  have hyb : BytesAt w4 (Now w4) Y y := hy.bytes.keep (fun b hb => hb.2) (fun _ _ => rfl)
  obtain ⟨ya, yc, rfl, _⟩ := id hyb
  replace hyb := hid hyb
  clear hy
  clear b0 b1 b2 b3 b4
  by_cases ga : GA = 0
  · by_cases gb : GB = 0
    · subst ga gb
      obtain ⟨hk1, hk2, hk3⟩ := hmain.out rfl rfl
      have eX : X = KA := by rw [← hX.out, if_pos rfl]
      have eY : Y = KB := by rw [← hY.out, if_pos rfl]
      subst eX eY
      clear hX hY hmain
      have hcm := hid (fun w cs cs' hT h h' => hcmp.out hNa hNb w cs cs' hT h h')
      simp only [orI, if_true] at hcm
      clear hcmp
      obtain ⟨q0, q1⟩ := hrow.out _ N.out
      have a0 := box_at (j := 0) q0 rfl
      have a1 := box_at (j := 1) q0 rfl
      have a2 := box_at (j := 2) q0 rfl
      have a3 := box_at (j := 3) q0 rfl
      have a4 := box_at (j := 4) q0 rfl
      have b0 := box_at (j := 0) q1 rfl
      have b1 := box_at (j := 1) q1 rfl
      have b2 := box_at (j := 2) q1 rfl
      have b3 := box_at (j := 3) q1 rfl
      have b4 := box_at (j := 4) q1 rfl
      clear q0 q1
      go_wp2_with fail
      refine (hcm.out _ _ _ (hT.out _ (D0.out.step N.out)) (hA0.out.later (D0.out.step N.out)) (hB0.out.later (D0.out.step N.out))).mono ?_
      rintro e w5 ⟨rfl, h5⟩
      replace N := hid (N.out.step h5)
      replace hxb := hid (hxb.out.later h5)
      replace hyb := hid (hyb.out.later h5)
      clear a0 a1 a2 a3 a4 b0 b1 b2 b3 b4
      clear h5
      go_wp2_with fail
      refine (hk3.out _ _ hxb.out (hT.out _ (D0.out.step N.out))).mono ?_
      rintro e w6 ⟨cs6, rfl, h6, hr6⟩
      obtain ⟨za, zc, zf, zg, rfl, _⟩ := hr6.inv
      replace hr6 : Hid (Rd w6 (Now w6) _ _) := hr6.keep (fun b hb => hb.2) (fun _ _ => rfl)
      replace N := hid (N.out.step h6)
      replace hxb := hid (hxb.out.later h6)
      replace hyb := hid (hyb.out.later h6)
      clear h6
      go_upto_region 11 with fail
      obtain ⟨w7, hw7⟩ : ∃ w7, w7 = w6.alloc (.cells #[.int .i64 ak, .int .i64 an, .string atx, .slice za al.length zc, .slice zf afv.length zg] 25) := ⟨_, rfl⟩
      have hn7 : Hid (Below w6.heap.size w6 w7) := by show Below _ _ _; rw [hw7]; exact below_new _ _
      have r7 : w7.heap[w6.heap.size]? = some (.cells #[.int .i64 ak, .int .i64 an, .string atx, .slice za al.length zc, .slice zf afv.length zg] 25 (0, 0)) := by rw [hw7]; exact heap_alloc_new _ _
      rw [← hw7]
      clear hw7
      replace hr6 := hid (hr6.out.later hn7.out)
      replace N := hid (N.out.step hn7.out)
      replace hxb := hid (hxb.out.later hn7.out)
      replace hyb := hid (hyb.out.later hn7.out)
      have hcb := hid (compare5_calls hxb.out hyb.out)
      rw [hk1.out] at hcb
      have s0 := box_at (j := 0) r7 rfl
      have s1 := box_at (j := 1) r7 rfl
      have s2 := box_at (j := 2) r7 rfl
      have s3 := box_at (j := 3) r7 rfl
      have s4 := box_at (j := 4) r7 rfl
      obtain ⟨q0, q1⟩ := hrow.out _ N.out
      have a0 := box_at (j := 0) q0 rfl
      have a1 := box_at (j := 1) q0 rfl
      have a2 := box_at (j := 2) q0 rfl
      have a3 := box_at (j := 3) q0 rfl
      have a4 := box_at (j := 4) q0 rfl
      clear q0 q1
      have hb1 := hid (fun (w' : World) (hb : Below w7.heap.size w7 w') => begins5_calls (hxb.out.later hb) (hyb.out.later hb))
      have hb2 := hid (fun (w' : World) (hb : Below w7.heap.size w7 w') => begins5_calls (hyb.out.later hb) (hxb.out.later hb))
      have hsm := hid (hsame.out w7 _ _ hr6.out (hA0.out.later (D0.out.step N.out)))
      clear hk1 r7
      by_cases hc : C = 0
      · subst hc
        clear hk2 hb1 hb2
        go_wp2_with fail
        refine hcb.out.mono ?_
        rintro e w8 ⟨rfl, rfl⟩
        go_wp2_with fail
        refine hsm.out.mono ?_
        rintro e w9 ⟨rfl, h9⟩
        clear s0 s1 s2 s3 s4 a0 a1 a2 a3 a4
        go_wp2_with fail
        go_ret
        exact ⟨rfl, D0.out.step (N.out.step h9)⟩
      · obtain ⟨e1, e2⟩ := hk2.out hc
        rw [e1] at hb1
        rw [e2] at hb2
        have hcn : (C == 0) = false := by simp [hc]
        have hcc : (C == C) = true := by simp
        clear hk2 e1 e2
        go_wp2_with fail
        refine hcb.out.mono ?_
        rintro e w8 ⟨rfl, rfl⟩
        go_wp2_with fail
        refine hsm.out.mono ?_
        rintro e w9 ⟨rfl, h9⟩
        clear s0 s1 s2 s3 s4 a0 a1 a2 a3 a4
        go_wp2_with fail
        refine (hb1.out _ h9).mono ?_
        rintro e w10 ⟨rfl, h10⟩
        go_wp2_with fail
        refine (hb2.out _ (h9.step h10)).mono ?_
        rintro e w11 ⟨rfl, h11⟩
        go_wp2_with fail
        go_ret
        exact ⟨rfl, D0.out.step (N.out.step ((h9.step h10).step h11))⟩
    · subst ga
      have eY : Y = [] := by rw [← hY.out, if_neg gb]
      subst eY
      have g2 : (GB == 0) = false := by simp [gb]
      have g3 : (GB != 0) = true := by simp [gb]
      clear hX hY hmain hcmp
      go_wp2_with fail
      go_ret
      exact ⟨rfl, D0.out.step N.out⟩
  · have eX : X = [] := by rw [← hX.out, if_neg ga]
    subst eX
    have g2 : (GA == 0) = false := by simp [ga]
    have g3 : (GA != 0) = true := by simp [ga]
    by_cases gb : GB = 0
    · subst gb
      clear hX hY hmain hcmp
      go_wp2_with fail
      go_ret
      exact ⟨rfl, D0.out.step N.out⟩
    · have eY : Y = [] := by rw [← hY.out, if_neg gb]
      subst eY
      have g4 : (GB == 0) = false := by simp [gb]
      have g5 : (GB != 0) = true := by simp [gb]
      clear hX hY hmain hcmp
      go_wp2_with fail
      go_ret
      exact ⟨rfl, D0.out.step N.out⟩
end Go.Proofs.YtihcegakghmdfaaDoor
