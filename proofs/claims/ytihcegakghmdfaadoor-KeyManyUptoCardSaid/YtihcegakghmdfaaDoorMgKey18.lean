/-
  Walk: the law KeyLists.
-/
import Derived.Test.YtihcegakghmdfaaDoorMgKey16
import Derived.Test.YtihcegakghmdfaaDoorMgRep1
import Derived.Test.YtihcegakghmdfaaDoorMgLaid
namespace Go.Proofs.YtihcegakghmdfaaDoor
open Go.RowKit Go.Proofs

theorem rdL_take {w : World} {S : Nat → Prop} {xs : List PVal} {la : Option Addr} {n m cap : Nat} (h : RdL w S xs (.slice la m cap)) (hn : n ≤ xs.length) : RdL w S (xs.take n) (.slice la n cap) := by
  obtain ⟨la', cap', cs, hv, h1, h2, h3, h4⟩ := h
  injection hv with e1 e2 e3
  subst e1 e3
  have hl : (xs.take n).length = n := by rw [List.length_take]; omega
  refine ⟨la, cap, cs, by rw [hl], by rw [hl]; omega, ⟨h2.1, by rw [hl]; omega⟩, ?_, fun i x hx => ?_⟩
  · rw [hl]
    rcases h3 with h3 | ⟨b, off, rfl, hs, hc⟩
    · exact .inl (by omega)
    · exact .inr ⟨b, off, rfl, hs, fun i hi => hc i (by omega)⟩
  · rw [List.getElem?_take] at hx
    split at hx
    · exact h4 i x hx
    · cases hx
theorem massL_take (l : List PVal) (n : Nat) : massL (l.take n) ≤ massL l := by
  induction l generalizing n with
  | nil => simp [massL]
  | cons x r ih =>
    cases n with
    | zero => simp [massL]
    | succ n => simp only [List.take_succ_cons, massL]; have := ih n; omega
theorem keys_order : ∀ (l l' : List PVal), l.length = l'.length → (∀ x ∈ l, x.good = 0 ∧ x.fits) → (∀ x ∈ l', x.good = 0 ∧ x.fits) → cb (keysP l) (keysP l') = cmpL l l'
  | [], [], _, _, _ => rfl
  | [], _ :: _, h, _, _ => by simp at h
  | _ :: _, [], h, _, _ => by simp at h
  | x :: r, y :: r', h, h1, h2 => by
    have ih := keys_order r r' (by simpa using h) (fun z hz => h1 z (by simp [hz])) (fun z hz => h2 z (by simp [hz]))
    obtain ⟨gx, fx⟩ := h1 x (by simp)
    obtain ⟨gy, fy⟩ := h2 y (by simp)
    rw [keysP_cons, keysP_cons, cb_key x y _ _ (good_form gx).1 (good_form gy).1 fx fy, ih, cmpL_cons]
theorem split_keys {l : List PVal} (h : ∀ x ∈ l, x.good = 0 ∧ x.fits) : splitP (keysP l) l.length = some l := by
  have h1 := seqK_ok l [] h
  rw [List.append_nil] at h1
  exact splitP_yes h1 (badI_zero.2 (fun x hx => (h x hx).1)) rfl
theorem rdL_fits {w : World} {S : Nat → Prop} {xs : List PVal} {v : Value} (h : RdL w S xs v) : ∀ x ∈ xs, x.fits := fun x hx => by
  obtain ⟨la, cap, cs, _, _, _, _, h4⟩ := h
  obtain ⟨i, hi⟩ := List.getElem?_of_mem hx
  exact (h4 i x hi).fits
theorem OwnG.readT {w : World} {A B e : Nat} {xs : List PVal} {v : Value} (h : OwnG RdT 5 A B e w xs v) (hn : xs.length ≤ 1759218604441) : RdL w (Now w) xs v := by
  rcases h.row thawRel with ⟨rfl, rfl⟩ | ⟨g, cap, rfl, h1, h2, h3, h4, cs, h5, h6⟩
  · exact rdL_nil
  · exact ⟨some ⟨g, 0, none⟩, cap, cs, rfl, h1, ⟨by unfold maxLen at h2; omega, hn⟩, .inr ⟨g, 0, rfl, h4, h5⟩, fun i x hx => (h6 i x hx).1.keep (fun b hb => hb.2.1) (fun _ _ => rfl)⟩

set_option maxRecDepth 100000 in
set_option maxHeartbeats 1500000 in
theorem lists_calls (xs ys : List PVal) (hma : massL xs ≤ 1073741824) (hmb : massL ys ≤ 1073741824) {w : World} {la lb : Option Addr} {ca cb' : Nat} (hT : Tabs w) (hA : RdL w (Now w) xs (.slice la xs.length ca)) (hB : RdL w (Now w) ys (.slice lb ys.length cb')) :
    Calls Tryd.prog 16 #[.slice la xs.length ca, .slice lb ys.length cb'] w fun e w' => e = .returned (.bool true) ∧ Below w.heap.size w w' := by
  have hT0 := hT
  have hT := hid (fun w' hb => Tabs.stays w w' hT hb)
  have haw := hid awake5_calls
  have hlx : xs.length ≤ 1759218604441 := by
    obtain ⟨_, _, _, hv, _, h, _⟩ := hA
    exact h.2
  have hly : ys.length ≤ 1759218604441 := by
    obtain ⟨_, _, _, hv, _, h, _⟩ := hB
    exact h.2
  have hcx : xs.length ≤ ca ∧ ca ≤ 9223372036854775807 := by
    obtain ⟨_, _, _, hv, h1, h, _⟩ := hA
    injection hv with _ _ e3
    subst e3
    exact ⟨h1, h.1⟩
  have hcy : ys.length ≤ cb' ∧ cb' ≤ 9223372036854775807 := by
    obtain ⟨_, _, _, hv, h1, h, _⟩ := hB
    injection hv with _ _ e3
    subst e3
    exact ⟨h1, h.1⟩
  have hA0 := hid hA
  have hB0 := hid hB
  have hva := hid (fun la c' w h => vast_calls xs la c' w h hlx)
  have hvb := hid (fun la c' w h => vast_calls ys la c' w h hly)
  have hnodA : Hid (vast xs = false → ∀ x ∈ xs, x.nodes ≤ 20000) := fun hv x hx => by
    have hnl : ¬ 5000 ≤ nodesL xs := of_decide_eq_false hv
    have := nodes_mem hx
    omega
  have hnodB : Hid (vast ys = false → ∀ x ∈ ys, x.nodes ≤ 20000) := fun hv x hx => by
    have hnl : ¬ 5000 ≤ nodesL ys := of_decide_eq_false hv
    have := nodes_mem hx
    omega
  clear hA hB
  generalize vast xs = VA at *
  generalize vast ys = VB at *
  go_enter Tryd.func16, Tryd.ntmps16
  go_wp2_with fail
  refine (haw.out _ hT0).mono ?_
  rintro e w1 ⟨rfl, h1⟩
  have D := hid h1
  clear h1
  cases VA with
  | true =>
    go_wp2_with fail
    refine (hva.out _ _ _ (hA0.out.later D.out)).mono ?_
    rintro e w2 ⟨rfl, h2⟩
    replace D := hid (D.out.step h2)
    go_wp2_with fail
    go_ret
    exact ⟨rfl, D.out⟩
  | false =>
  cases VB with
  | true =>
    go_wp2_with fail
    refine (hva.out _ _ _ (hA0.out.later D.out)).mono ?_
    rintro e w2 ⟨rfl, h2⟩
    replace D := hid (D.out.step h2)
    go_wp2_with fail
    refine (hvb.out _ _ _ (hB0.out.later D.out)).mono ?_
    rintro e w3 ⟨rfl, h3⟩
    replace D := hid (D.out.step h3)
    go_wp2_with fail
    go_ret
    exact ⟨rfl, D.out⟩
  | false =>
  replace hnodA := hid (hnodA.out rfl)
  replace hnodB := hid (hnodB.out rfl)
  obtain ⟨n, hn⟩ : ∃ n, n = min xs.length ys.length := ⟨_, rfl⟩
  have hnx : n ≤ xs.length := by omega
  have hny : n ≤ ys.length := by omega
  have hmin : (if (xs.length : Int) < (ys.length : Int) then (xs.length : Int) else (ys.length : Int)) = (n : Int) := by split <;> omega
  have hmin2 : min (xs.length : Int) (ys.length : Int) = (n : Int) := by omega
  obtain ⟨A, hAe⟩ : ∃ A, A = xs.take n := ⟨_, rfl⟩
  obtain ⟨B, hBe⟩ : ∃ B, B = ys.take n := ⟨_, rfl⟩
  have hAl : A.length = n := by rw [hAe, List.length_take]; omega
  have hBl : B.length = n := by rw [hBe, List.length_take]; omega
  have rA : Hid (∀ w', Below w.heap.size w w' → RdL w' (Now w') A (.slice la n ca)) := fun w' hb => by rw [hAe]; exact rdL_take (hA0.out.later hb) hnx
  have rB : Hid (∀ w', Below w.heap.size w w' → RdL w' (Now w') B (.slice lb n cb')) := fun w' hb => by rw [hBe]; exact rdL_take (hB0.out.later hb) hny
  have hmA : massL A ≤ 1073741824 := by rw [hAe]; have := massL_take xs n; omega
  have hmB : massL B ≤ 1073741824 := by rw [hBe]; have := massL_take ys n; omega
  have hfA : ∀ x ∈ A, x.fits := rdL_fits (rA.out w (Below.refl _ _))
  have hfB : ∀ x ∈ B, x.fits := rdL_fits (rB.out w (Below.refl _ _))
  have nA : Hid (∀ x ∈ A, x.nodes ≤ 20000) := fun x hx => by rw [hAe] at hx; exact hnodA.out x (List.mem_of_mem_take hx)
  have nB : Hid (∀ x ∈ B, x.nodes ≤ 20000) := fun x hx => by rw [hBe] at hx; exact hnodB.out x (List.mem_of_mem_take hx)
  have jA := hid (fun (w' : World) (hb : Below w.heap.size w w') => join_calls A (fun x hx => by have := mass_mem hx; omega) (by have := keysP_le A; omega) (la := la) (lc := ca) (hT.out _ hb) (by rw [hAl]; exact rA.out _ hb))
  have jB := hid (fun (w' : World) (hb : Below w.heap.size w w') => join_calls B (fun x hx => by have := mass_mem hx; omega) (by have := keysP_le B; omega) (la := lb) (lc := cb') (hT.out _ hb) (by rw [hBl]; exact rB.out _ hb))
  unfold Joined at jA jB
  rw [hAl] at jA
  rw [hBl] at jB
  have hmain : Hid (badI A = 0 → badI B = 0 → cb (keysP A) (keysP B) = cmpL A B ∧ (∀ x ∈ A, x.good = 0) ∧ (∀ x ∈ B, x.good = 0) ∧ splitP (keysP A) n = some A ∧ (keysP A).length ≤ 17179869184) := fun gA gB => by
    have g1 := badI_zero.1 gA
    have g2 := badI_zero.1 gB
    refine ⟨keys_order A B (by omega) (fun x hx => ⟨g1 x hx, hfA x hx⟩) (fun x hx => ⟨g2 x hx, hfB x hx⟩), g1, g2, ?_, by have := keysP_le A; omega⟩
    have := split_keys (l := A) (fun x hx => ⟨g1 x hx, hfA x hx⟩)
    rwa [hAl] at this
  obtain ⟨X, hX⟩ : ∃ X, (if badI A = 0 then keysP A else []) = X := ⟨_, rfl⟩
  obtain ⟨Y, hY⟩ : ∃ Y, (if badI B = 0 then keysP B else []) = Y := ⟨_, rfl⟩
  rw [hX] at jA
  rw [hY] at jB
  obtain ⟨JA, hJA⟩ : ∃ JA, badI A = JA := ⟨_, rfl⟩
  obtain ⟨JB, hJB⟩ : ∃ JB, badI B = JB := ⟨_, rfl⟩
  rw [hJA] at jA hX hmain
  rw [hJB] at jB hY hmain
  replace hX := hid hX
  replace hY := hid hY
  replace hAl := hid hAl
  replace hBl := hid hBl
  clear hJA hJB hfA hfB hmA hmB hAe hBe hn hma hmb hnodA hnodB
  have i1 : (n : Int) ≤ (xs.length : Int) := by omega
  have i2 : (n : Int) ≤ (ys.length : Int) := by omega
  have i3 : (n : Int) ≤ (ca : Int) := by omega
  have i4 : (n : Int) ≤ (cb' : Int) := by omega
  go_wp2_with fail
  refine (hva.out _ _ _ (hA0.out.later D.out)).mono ?_
  rintro e w2 ⟨rfl, h2⟩
  replace D := hid (D.out.step h2)
  clear h2
  go_wp2_with fail
  refine (hvb.out _ _ _ (hB0.out.later D.out)).mono ?_
  rintro e w3 ⟨rfl, h3⟩
  replace D := hid (D.out.step h3)
  clear h3
  go_wp2_with fail
  refine (jA.out _ D.out).mono ?_
  rintro e w4 ⟨x, rfl, hx⟩
  replace D := hid (D.out.step hx.1)
  have hxb : BytesAt w4 (Now w4) X x := hx.bytes.keep (fun b hb => hb.2) (fun _ _ => rfl)
  obtain ⟨xa, xc, rfl, _⟩ := id hxb
  replace hxb := hid hxb
  clear hx
  go_wp2_with fail
  refine (jB.out _ D.out).mono ?_
  rintro e w5 ⟨y, rfl, hy⟩
  replace D := hid (D.out.step hy.1)
  replace hxb := hid (hxb.out.later hy.1)
  have hyb : BytesAt w5 (Now w5) Y y := hy.bytes.keep (fun b hb => hb.2) (fun _ _ => rfl)
  obtain ⟨ya, yc, rfl, _⟩ := id hyb
  replace hyb := hid hyb
  clear hy
  by_cases gA : JA = 0
  · by_cases gB : JB = 0
    · subst gA gB
      obtain ⟨hk1, gdA, gdB, hspl, hkl⟩ := hmain.out rfl rfl
      have eX : X = keysP A := by rw [← hX.out, if_pos rfl]
      have eY : Y = keysP B := by rw [← hY.out, if_pos rfl]
      rw [← eX, ← eY] at hk1
      rw [← eX] at hspl hkl
      have hcmp : Hid (∀ (i : Nat) (x y : PVal), A[i]? = some x → B[i]? = some y → ∀ (w' : World) (cs cs' : List Value), Tabs w' → Rd w' (Now w') x cs → Rd w' (Now w') y cs' → Calls Tryd.prog 59 #[.agg cs.toArray, .agg cs'.toArray] w' fun e w2 => e = .returned (.tuple #[.int .i64 (cmpV x y), .int .i64 0]) ∧ Below w'.heap.size w' w2) := fun i x y hx hy w' cs cs' hT h h' => by
        have := compare_tells x y w' cs cs' (nA.out x (List.mem_of_getElem? hx)) (nB.out y (List.mem_of_getElem? hy)) hT h h'
        rw [gdA x (List.mem_of_getElem? hx), gdB y (List.mem_of_getElem? hy)] at this
        simpa [orI] using this
      have hsp := hid (fun (w' : World) (bv : Value) (h : BytesAt w' (Now w') X bv) (hT : Tabs w') => split_calls h hT hkl (n : Int) (by unfold I64; omega))
      rw [if_neg (by omega : ¬ (n : Int) < 0), Int.toNat_natCast, hspl] at hsp
      unfold SplitC at hsp
      have hcb := hid (fun (w' : World) (h : BytesAt w' (Now w') X (.slice xa X.length xc)) (k : BytesAt w' (Now w') Y (.slice ya Y.length yc)) => compare5_calls h k)
      rw [hk1] at hcb
      clear hX hY hmain eX eY gdA gdB hspl hk1 jA jB nA nB hva hvb
      obtain ⟨C, hC⟩ : ∃ C, cmpL A B = C := ⟨_, rfl⟩
      rw [hC] at hcb
      replace hC := hid hC
      go_wp2_with fail
      go_loopg [10, 11] n (fun gh s10 s11 wr => ∃ (i : Nat) (c : Int), gh + i = n ∧ s11 = .int .i64 i ∧ s10 = .int .i64 c ∧ lex c (cmpL (A.drop i) (B.drop i)) = C ∧ Hid (Below w5.heap.size w5 wr))
      case atStart => exact ⟨0, 0, by omega, rfl, rfl, by rw [lex_zero_left, List.drop_zero, List.drop_zero]; exact hC.out, Below.refl _ _⟩
      case round =>
        obtain ⟨i, c, hi, rfl, rfl, hcc, N⟩ := hrel
        replace hcc := hid hcc
        by_cases hgo : i < n ∧ c = 0
        · obtain ⟨hlt, rfl⟩ := hgo
          have hxlt : i < A.length := by have := hAl.out; omega
          have hylt : i < B.length := by have := hBl.out; omega
          obtain ⟨x, hx⟩ : ∃ x, A[i]? = some x := ⟨_, List.getElem?_eq_getElem hxlt⟩
          obtain ⟨y, hy⟩ : ∃ y, B[i]? = some y := ⟨_, List.getElem?_eq_getElem hylt⟩
          obtain ⟨b, off, cs, rfl, _, hc, hr⟩ := (rA.out wr (D.out.step N.out)).at_ hx
          obtain ⟨b', off', cs', rfl, _, hc', hr'⟩ := (rB.out wr (D.out.step N.out)).at_ hy
          have hcm := hid (fun (p : Later wr) => hcmp.out i x y hx hy p.x cs cs' (hT.out _ (D.out.step (N.out.step p.h))) (hr.later p.h) (hr'.later p.h))
          have hst : Hid (lex (cmpV x y) (cmpL (A.drop (i + 1)) (B.drop (i + 1))) = C) := by
            show _ = _
            rw [← hcc.out, lex_zero_left, cmpL_step hx hy]
            by_cases h : cmpV x y = 0
            · rw [h, lex_zero_left, if_neg (by simp)]
            · rw [lex_nz h, if_pos h]
          generalize cmpV x y = E at *
          obtain ⟨xk, xn, xt, xl, xfn, xfv⟩ := x
          obtain ⟨yk, yn, yt, yl, yfn, yfv⟩ := y
          obtain ⟨pa, pc, pf, pg, rfl, _⟩ := hr.inv
          obtain ⟨qa, qc, qf, qg, rfl, _⟩ := hr'.inv
          have c0 := Later.cell (hc 0 _ rfl)
          have c1 := Later.cell (hc 1 _ rfl)
          have c2 := Later.cell (hc 2 _ rfl)
          have c3 := Later.cell (hc 3 _ rfl)
          have c4 := Later.cell (hc 4 _ rfl)
          have d0 := Later.cell (hc' 0 _ rfl)
          have d1 := Later.cell (hc' 1 _ rfl)
          have d2 := Later.cell (hc' 2 _ rfl)
          have d3 := Later.cell (hc' 3 _ rfl)
          have d4 := Later.cell (hc' 4 _ rfl)
          rw [Nat.add_zero] at c0 d0
          have j0 : (0 : Int) ≤ (i : Int) := by omega
          have j1 : (i : Int) < (xs.length : Int) := by omega
          have j2 : (i : Int) < (ys.length : Int) := by omega
          have j3 : (i : Int) < (n : Int) := by omega
          clear hc hc' hr hr' hx hy hxlt hylt
          go_upto_region 14 with fail
          refine wp_later (by kernel_rfl) (by kernel_rfl) ?_
          repeat (go_big_quiet_step ((go_at_call 59; exact later_calls _ (hcm.out _))))
          refine wpQuiet_nil ?_
          rintro _ ⟨q, rfl⟩
          clear c0 c1 c2 c3 c4 d0 d1 d2 d3 d4
          go_wp2_with fail
          go_roundg (n - (i + 1))
          case measure => omega
          case rel => exact ⟨i + 1, E, by omega, by go_num, rfl, hst.out, N.out.step q.h⟩
        · have hfin : c = C := by
            rw [← hcc.out]
            by_cases hc : c = 0
            · have : ¬ i < n := fun h => hgo ⟨h, hc⟩
              rw [cmpL_end (.inl (by have := hAl.out; omega)), lex_zero_right]
            · rw [lex_nz hc]
          subst hfin
          clear hcc hC
          have hDN := hid (D.out.step N.out)
          have hxb2 := hid (hxb.out.later N.out)
          have hyb2 := hid (hyb.out.later N.out)
          by_cases hlt : i < n
          · have hc0 : c ≠ 0 := fun h => hgo ⟨hlt, h⟩
            have hcz : (c == 0) = false := by simp [hc0]
            have j3 : (i : Int) < (n : Int) := by omega
            clear hgo
            go_wp2_with fail
            refine (hsp.out _ _ hxb2.out (hT.out _ hDN.out)).mono ?_
            rintro e w6 ⟨h6, v6, rfl, ho6⟩
            have hl6 := ho6.readT (by have := hAl.out; omega)
            obtain ⟨va, vc, _, hv6, _⟩ := id hl6
            rw [hAl.out] at hv6
            subst hv6
            replace hDN := hid (hDN.out.step h6)
            replace hxb2 := hid (hxb2.out.later h6)
            replace hyb2 := hid (hyb2.out.later h6)
            have hcq := hid (hcb.out _ hxb2.out hyb2.out)
            have hrl := rlist_calls A (w := w6) (la := va) (c := vc) (la' := la) (c' := ca) (by rw [hAl.out]; exact hl6) (by rw [hAl.out]; exact rA.out _ hDN.out)
            rw [hAl.out] at hrl
            replace hrl := hid hrl
            have hcc : (c == c) = true := by simp
            clear h6 ho6 hl6
            go_wp2_with fail
            refine hcq.out.mono ?_
            rintro e w7 ⟨rfl, rfl⟩
            go_wp2_with fail
            refine hrl.out.mono ?_
            rintro e w8 ⟨rfl, h8⟩
            go_wp2_with fail
            go_ret
            exact ⟨rfl, hDN.out.step h8⟩
          · have j3 : ¬ (i : Int) < (n : Int) := by omega
            clear hgo
            go_wp2_with fail
            refine (hsp.out _ _ hxb2.out (hT.out _ hDN.out)).mono ?_
            rintro e w6 ⟨h6, v6, rfl, ho6⟩
            have hl6 := ho6.readT (by have := hAl.out; omega)
            obtain ⟨va, vc, _, hv6, _⟩ := id hl6
            rw [hAl.out] at hv6
            subst hv6
            replace hDN := hid (hDN.out.step h6)
            replace hxb2 := hid (hxb2.out.later h6)
            replace hyb2 := hid (hyb2.out.later h6)
            have hcq := hid (hcb.out _ hxb2.out hyb2.out)
            have hrl := rlist_calls A (w := w6) (la := va) (c := vc) (la' := la) (c' := ca) (by rw [hAl.out]; exact hl6) (by rw [hAl.out]; exact rA.out _ hDN.out)
            rw [hAl.out] at hrl
            replace hrl := hid hrl
            have hcc : (c == c) = true := by simp
            clear h6 ho6 hl6
            go_wp2_with fail
            refine hcq.out.mono ?_
            rintro e w7 ⟨rfl, rfl⟩
            go_wp2_with fail
            refine hrl.out.mono ?_
            rintro e w8 ⟨rfl, h8⟩
            go_wp2_with fail
            go_ret
            exact ⟨rfl, hDN.out.step h8⟩
    · have g2 : (JB == 0) = false := by simp [gB]
      have g3 : (JB != 0) = true := by simp [gB]
      subst gA
      clear hX hY hmain
      go_wp2_with fail
      go_ret
      exact ⟨rfl, D.out⟩
  · have g2 : (JA == 0) = false := by simp [gA]
    have g3 : (JA != 0) = true := by simp [gA]
    clear hX hY hmain
    go_wp2_with fail
    go_ret
    exact ⟨rfl, D.out⟩
end Go.Proofs.YtihcegakghmdfaaDoor
