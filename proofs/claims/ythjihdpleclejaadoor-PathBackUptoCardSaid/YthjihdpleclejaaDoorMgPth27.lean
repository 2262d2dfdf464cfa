/-
  Walk: the law PathBack. No condition.
-/
import Derived.Test.YthjihdpleclejaaDoorMgPth26
import Derived.Test.YthjihdpleclejaaDoorMgPth22
import Derived.Test.YthjihdpleclejaaDoorMgPthV
namespace Go.Proofs.YthjihdpleclejaaDoor
open Go.RowKit Go.Proofs

/-- What PathBack leans on, behind Unset. -/
def BackC (V UV : PVal) (BP IS IL : Bool) (aa : List ByteArray) (AR : PVal × Int) : Prop :=
  BP = true ∧ ∃ s, aa[aa.length - 1]? = some s ∧ 1 ≤ s.data.toList.length ∧ 1 ≤ aa.length ∧ (IS = false → UV = V) ∧ (IS = true → AR = (V, 0)) ∧ (IS = true → place s = none → IL = false)
theorem back_c {V : PVal} {pa : ByteArray} (hv : V.fits) (h : (unsetP V pa).2 = 0) : BackC V (unsetP V pa).1 (stepsP pa).isSome (gotP V pa).isSome (gotP (unsetP V pa).1 pa).isSome ((stepsP pa).getD []) (setP V pa ((gotP V pa).getD zeroP)) := by
  obtain ⟨_, a, s, h1, h2, h3, h4, h5, h6⟩ := unset_ok hv h
  rw [h1]
  refine ⟨rfl, s, h2, h3, h4, fun hi => h5 ?_, fun hi => ?_, fun hi hp => ?_⟩
  · cases hg : gotP V pa with
    | none => rfl
    | some x => rw [hg] at hi; cases hi
  · obtain ⟨x, hx⟩ := Option.isSome_iff_exists.1 hi
    rw [hx]
    exact (h6 x hx).1
  · obtain ⟨x, hx⟩ := Option.isSome_iff_exists.1 hi
    rw [(h6 x hx).2 hp]; rfl

set_option maxRecDepth 100000 in
set_option maxHeartbeats 8000000 in
theorem back_calls (V x : PVal) (hm : V.mass ≤ 33554432) (hmx : x.mass ≤ 33554432) (pa : ByteArray) (hpa : pa.size < 4294967281) {w : World} {cs xs : List Value} (hT : Tabs w) (hM : Mx w) (hV : Rd w (Now w) V cs) (hx : Rd w (Now w) x xs) :
    Calls Tryd.prog 6 #[.agg cs.toArray, .string pa, .agg xs.toArray] w fun e w' => e = .returned (.bool true) ∧ Below w.heap.size w w' := by
  have hva := hid (fun la c' w h => vast_calls [V, x] la c' w h (by simp))
  have hst := hid (fun (w' : World) cs xs (h : Below w.heap.size w w') hv hx => set_calls pa hpa V x (by omega) (by omega) (w := w') (cs := cs) (xs := xs) (Tabs.stays w w' hT h) (hM.stays h) hv hx)
  have hO : ((gotP V pa).getD zeroP).mass ≤ 33554432 := got_mass (by omega) hm
  have hset2 := hid (fun (w' : World) cs xs (h : Below w.heap.size w w') hv hx => set_calls pa hpa V ((gotP V pa).getD zeroP) (by omega) (by omega) (w := w') (cs := cs) (xs := xs) (Tabs.stays w w' hT h) (hM.stays h) hv hx)
  have hus := hid (fun (w' : World) cs (h : Below w.heap.size w w') hv => unset_calls pa hpa V (by omega) (w := w') (cs := cs) (Tabs.stays w w' hT h) (hM.stays h) hv)
  have hsp := hid (fun (w' : World) (h : Below w.heap.size w w') => steps_calls pa w' hpa (hM.stays h))
  have hgt := hid (fun (U : PVal) (hU : U.mass ≤ 1000000000000) (w' : World) cs (h : Below w.heap.size w w') hx => get_calls copy_deep pa hpa U hU (w := w') (cs := cs) (Tabs.stays w w' hT h) (hM.stays h) hx)
  have haw := hid (fun (w' : World) (h : Below w.heap.size w w') => awake6_calls w' (Tabs.stays w w' hT h) (hM.stays h))
  have hsm := hid (fun (V : PVal) w cs cs' h h' => same6_calls V V true (by simp) w cs cs' h h')
  have hms : Hid ((setP V pa x).1.mass ≤ 1000000000000) := by have := set_mass (M := 33554432) (v := V) (x := x) (p := pa) (by omega) hm hmx; show _ ≤ _; omega
  have hmu : Hid ((unsetP V pa).1.mass ≤ 1000000000000) := by have := unset_mass (M := 33554432) (v := V) (p := pa) (by omega) hm; show _ ≤ _; omega
  have hmv : Hid (V.mass ≤ 1000000000000) := by show _ ≤ _; omega
  have hgd := hid (fun (w' : World) cs (h : Below w.heap.size w w') hx => good_mass (setP V pa x).1 hms.out w' cs (Tabs.stays w w' hT h) hx)
  have hA : Hid ((setP V pa x).2 = 0 → gotP (setP V pa x).1 pa = some x ∧ (setP V pa x).1.good = 0) := fun h => set_back hV.fits h
  have hB : Hid ((unsetP V pa).2 ≠ 0 → (gotP V pa).isSome = false) := fun h => by rw [unset_none hV.fits h]; rfl
  have hC : Hid ((unsetP V pa).2 = 0 → _) := fun h => back_c hV.fits h
  unfold Done6 at hst hus hset2
  have hgv := hid (hgt.out V hmv.out)
  have hgs := hid (hgt.out (setP V pa x).1 hms.out)
  have hgu := hid (hgt.out (unsetP V pa).1 hmu.out)
  obtain ⟨GU, hGU⟩ : ∃ GU, GU = gotP (unsetP V pa).1 pa := ⟨_, rfl⟩
  rw [← hGU] at hgu hC
  obtain ⟨GS, hGS⟩ : ∃ GS, GS = gotP (setP V pa x).1 pa := ⟨_, rfl⟩
  rw [← hGS] at hgs hA
  obtain ⟨AR, hAR⟩ : ∃ AR, AR = setP V pa ((gotP V pa).getD zeroP) := ⟨_, rfl⟩
  rw [← hAR] at hset2 hC
  clear hAR
  obtain ⟨GV, hGV⟩ : ∃ GV, GV = gotP V pa := ⟨_, rfl⟩
  rw [← hGV] at hgv hB hC hset2
  unfold Got6 at hgv hgs hgu
  obtain ⟨GG, hGG⟩ : ∃ GG, GG = (setP V pa x).1.good := ⟨_, rfl⟩
  rw [← hGG] at hgd hA
  obtain ⟨SR, hSR⟩ : ∃ SR, SR = setP V pa x := ⟨_, rfl⟩
  rw [← hSR] at hst hA hgs hgd
  clear hGU hGS hGG hmu hms
  obtain ⟨SV, SE⟩ := SR
  obtain ⟨UR, hUR⟩ : ∃ UR, UR = unsetP V pa := ⟨_, rfl⟩
  rw [← hUR] at hus hB hC hgu
  obtain ⟨UV, UE⟩ := UR
  simp only at hst hA hgs hus hB hC hgu hgd
  obtain ⟨QP, hQP⟩ : ∃ Q, Q = stepsP pa := ⟨_, rfl⟩
  rw [← hQP] at hsp hC
  obtain ⟨aa, haa⟩ : ∃ ll, ll = QP.getD [] := ⟨_, rfl⟩
  obtain ⟨BP, hBP⟩ : ∃ B, B = QP.isSome := ⟨_, rfl⟩
  have hspa : Hid (∀ w' e w2, Stepped QP w' e w2 → Below w'.heap.size w' w2 ∧ ∃ v, e = .returned (.tuple #[v, .int .i64 (errS BP)]) ∧ StrsAt w2 (Now w2) aa v) := fun w' e w2 h => by
    have := steps_any h
    rw [← haa, ← hBP] at this
    exact this
  rw [← haa, ← hBP] at hC
  obtain ⟨O0, hO0⟩ : ∃ O0, O0 = GV.getD zeroP := ⟨_, rfl⟩
  obtain ⟨IS, hIS⟩ : ∃ IS, IS = GV.isSome := ⟨_, rfl⟩
  rw [← hIS] at hgv hB hC
  rw [← hO0] at hgv hset2
  obtain ⟨IL, hIL⟩ : ∃ IL, IL = GU.isSome := ⟨_, rfl⟩
  rw [← hIL] at hgu hC
  obtain ⟨L0, hL0⟩ : ∃ L0, L0 = GU.getD zeroP := ⟨_, rfl⟩
  rw [← hL0] at hgu
  clear hSR hUR hQP haa hBP hO0 hIS hIL hL0 hT hM hm hmx hmv hgt hO hGV
  have xV := hid hV
  have xU := hid hx
  generalize vast [V, x] = T at *
  obtain ⟨k, n, str, l, fn, fv⟩ := V
  obtain ⟨la, lc, fa, fc, rfl, _⟩ := hV.inv
  obtain ⟨uk, un, ut, ul, ufn, ufv⟩ := x
  obtain ⟨ua, uc, va, vc, rfl, _⟩ := hx.inv
  clear hV hx
  go_enter Tryd.func6, Tryd.ntmps6
  have D := hid (Below.refl w.heap.size w)
  go_upto_region 1 with fail
  obtain ⟨w1, hw_⟩ : ∃ x, x = (w.alloc (.cells #[.int .i64 k, .int .i64 n, .string str, .slice la l.length lc, .slice fa fv.length fc] 25)).alloc (.cells #[.int .i64 uk, .int .i64 un, .string ut, .slice ua ul.length uc, .slice va ufv.length vc] 25) := ⟨_, rfl⟩
  have N : Hid (Below w.heap.size w w1) := by show Below _ _ _; rw [hw_]; exact (below_new _ _).step (below_new _ _)
  have r3_ : Hid (w1.heap[w.heap.size]? = some (.cells #[.int .i64 k, .int .i64 n, .string str, .slice la l.length lc, .slice fa fv.length fc] 25 (0, 0))) := by show _ = _; rw [hw_]; exact al_old (al_at rfl)
  have r5_ : Hid (w1.heap[w.heap.size + 1]? = some (.cells #[.int .i64 uk, .int .i64 un, .string ut, .slice ua ul.length uc, .slice va ufv.length vc] 25 (0, 0))) := by show _ = _; rw [hw_]; exact al_at (by simp)
  rw [← hw_]
  clear hw_
  replace D := hid (D.out.step N.out)
  replace xV := hid (xV.out.later N.out)
  replace xU := hid (xU.out.later N.out)
  clear N
  have r3 := r3_
  have r5 := r5_
  clear r3_ r5_
  go_wp2_with fail
  refine (haw.out _ D.out).mono ?_
  rintro e w2 ⟨rfl, N0⟩
  have N := hid N0
  clear N0
  replace D := hid (D.out.step N.out)
  replace r3 := hid ((N.out.block _ (lt_of_block r3.out)).trans r3.out)
  replace r5 := hid ((N.out.block _ (lt_of_block r5.out)).trans r5.out)
  replace xV := hid (xV.out.later N.out)
  replace xU := hid (xU.out.later N.out)
  clear N
  have a3_0 := box_at (j := 0) r3.out rfl
  have a3_1 := box_at (j := 1) r3.out rfl
  have a3_2 := box_at (j := 2) r3.out rfl
  have a3_3 := box_at (j := 3) r3.out rfl
  have a3_4 := box_at (j := 4) r3.out rfl
  have a5_0 := box_at (j := 0) r5.out rfl
  have a5_1 := box_at (j := 1) r5.out rfl
  have a5_2 := box_at (j := 2) r5.out rfl
  have a5_3 := box_at (j := 3) r5.out rfl
  have a5_4 := box_at (j := 4) r5.out rfl
  go_wp2_with fail
  refine (hva.out (some ⟨w2.heap.size, 0, none⟩) 2 _ (rdL_pair (x := .mk k n str l fn fv) (y := .mk uk un ut ul ufn ufv) (al_at (o := (.cells #[.int .i64 k, .int .i64 n, .string str, .slice la l.length lc, .slice fa fv.length fc, .int .i64 uk, .int .i64 un, .string ut, .slice ua ul.length uc, .slice va ufv.length vc] 25)) rfl) (lt_of_block (al_at (o := (.cells #[.int .i64 k, .int .i64 n, .string str, .slice la l.length lc, .slice fa fv.length fc, .int .i64 uk, .int .i64 un, .string ut, .slice ua ul.length uc, .slice va ufv.length vc] 25)) rfl)) (xV.out.later (below_new _ _)) (xU.out.later (below_new _ _)))).mono ?_
  rintro e w3 ⟨rfl, N0⟩
  clear a3_0 a3_1 a3_2 a3_3 a3_4 a5_0 a5_1 a5_2 a5_3 a5_4
  replace N0 := (below_new w2 (.cells #[.int .i64 k, .int .i64 n, .string str, .slice la l.length lc, .slice fa fv.length fc, .int .i64 uk, .int .i64 un, .string ut, .slice ua ul.length uc, .slice va ufv.length vc] 25)).step N0
  have N := hid N0
  clear N0
  replace D := hid (D.out.step N.out)
  replace r3 := hid ((N.out.block _ (lt_of_block r3.out)).trans r3.out)
  replace r5 := hid ((N.out.block _ (lt_of_block r5.out)).trans r5.out)
  replace xV := hid (xV.out.later N.out)
  replace xU := hid (xU.out.later N.out)
  clear N
  cases T with
  | true =>
    go_wp2_with fail
    go_ret
    exact ⟨rfl, D.out⟩
  | false =>
  have a3_0 := box_at (j := 0) r3.out rfl
  have a3_1 := box_at (j := 1) r3.out rfl
  have a3_2 := box_at (j := 2) r3.out rfl
  have a3_3 := box_at (j := 3) r3.out rfl
  have a3_4 := box_at (j := 4) r3.out rfl
  have a5_0 := box_at (j := 0) r5.out rfl
  have a5_1 := box_at (j := 1) r5.out rfl
  have a5_2 := box_at (j := 2) r5.out rfl
  have a5_3 := box_at (j := 3) r5.out rfl
  have a5_4 := box_at (j := 4) r5.out rfl
  go_wp2_with fail
  refine (hst.out _ _ _ D.out xV.out xU.out).mono ?_
  rintro e w4 ⟨cs_, rfl, N0, xx_⟩
  clear a3_0 a3_1 a3_2 a3_3 a3_4 a5_0 a5_1 a5_2 a5_3 a5_4
  obtain ⟨xk, xn, xt, xl, xfn, xfv⟩ := SV
  obtain ⟨ya, yc, za, zc, rfl, _⟩ := xx_.inv
  replace xx_ := hid xx_.now_free
  have N := hid N0
  clear N0
  replace D := hid (D.out.step N.out)
  replace r3 := hid ((N.out.block _ (lt_of_block r3.out)).trans r3.out)
  replace r5 := hid ((N.out.block _ (lt_of_block r5.out)).trans r5.out)
  replace xV := hid (xV.out.later N.out)
  replace xU := hid (xU.out.later N.out)
  have xx := xx_
  clear xx_
  clear N
  go_upto_region 6 with fail
  obtain ⟨w5, hw_⟩ : ∃ x, x = w4.alloc (.cells #[.int .i64 xk, .int .i64 xn, .string xt, .slice ya xl.length yc, .slice za xfv.length zc] 25) := ⟨_, rfl⟩
  have N : Hid (Below w4.heap.size w4 w5) := by show Below _ _ _; rw [hw_]; exact below_new _ _
  have r7_ : Hid (w5.heap[w4.heap.size]? = some (.cells #[.int .i64 xk, .int .i64 xn, .string xt, .slice ya xl.length yc, .slice za xfv.length zc] 25 (0, 0))) := by show _ = _; rw [hw_]; exact heap_alloc_new _ _
  rw [← hw_]
  clear hw_
  replace D := hid (D.out.step N.out)
  replace r3 := hid ((N.out.block _ (lt_of_block r3.out)).trans r3.out)
  replace r5 := hid ((N.out.block _ (lt_of_block r5.out)).trans r5.out)
  replace xV := hid (xV.out.later N.out)
  replace xU := hid (xU.out.later N.out)
  replace xx := hid (xx.out.later N.out)
  clear N
  have r7 := r7_
  clear r7_
  by_cases hSE : SE = 0
  · subst hSE
    obtain ⟨hA1, hA2⟩ := hA.out rfl
    subst hA1 hA2
    clear hA
    have a7_0 := box_at (j := 0) r7.out rfl
    have a7_1 := box_at (j := 1) r7.out rfl
    have a7_2 := box_at (j := 2) r7.out rfl
    have a7_3 := box_at (j := 3) r7.out rfl
    have a7_4 := box_at (j := 4) r7.out rfl
    go_wp2_with fail
    refine (hgs.out _ _ D.out xx.out).mono ?_
    rintro e w6 ⟨cs_, rfl, N0, xg_⟩
    clear a7_0 a7_1 a7_2 a7_3 a7_4
    replace xg_ : Rd _ (Free _ _) (.mk uk un ut ul ufn ufv) cs_ := xg_
    obtain ⟨pa1, pc1, pa2, pc2, rfl, _⟩ := xg_.inv
    replace xg_ := hid xg_.now_free
    have N := hid N0
    clear N0
    replace D := hid (D.out.step N.out)
    replace r3 := hid ((N.out.block _ (lt_of_block r3.out)).trans r3.out)
    replace r5 := hid ((N.out.block _ (lt_of_block r5.out)).trans r5.out)
    replace r7 := hid ((N.out.block _ (lt_of_block r7.out)).trans r7.out)
    replace xV := hid (xV.out.later N.out)
    replace xU := hid (xU.out.later N.out)
    replace xx := hid (xx.out.later N.out)
    have xg := xg_
    clear xg_
    clear N
    go_upto_region 8 with fail
    obtain ⟨w7, hw_⟩ : ∃ x, x = w6.alloc (.cells #[.int .i64 uk, .int .i64 un, .string ut, .slice pa1 ul.length pc1, .slice pa2 ufv.length pc2] 25) := ⟨_, rfl⟩
    have N : Hid (Below w6.heap.size w6 w7) := by show Below _ _ _; rw [hw_]; exact below_new _ _
    have r9_ : Hid (w7.heap[w6.heap.size]? = some (.cells #[.int .i64 uk, .int .i64 un, .string ut, .slice pa1 ul.length pc1, .slice pa2 ufv.length pc2] 25 (0, 0))) := by show _ = _; rw [hw_]; exact heap_alloc_new _ _
    rw [← hw_]
    clear hw_
    replace D := hid (D.out.step N.out)
    replace r3 := hid ((N.out.block _ (lt_of_block r3.out)).trans r3.out)
    replace r5 := hid ((N.out.block _ (lt_of_block r5.out)).trans r5.out)
    replace r7 := hid ((N.out.block _ (lt_of_block r7.out)).trans r7.out)
    replace xV := hid (xV.out.later N.out)
    replace xU := hid (xU.out.later N.out)
    replace xx := hid (xx.out.later N.out)
    replace xg := hid (xg.out.later N.out)
    clear N
    have r9 := r9_
    clear r9_
    have a9_0 := box_at (j := 0) r9.out rfl
    have a9_1 := box_at (j := 1) r9.out rfl
    have a9_2 := box_at (j := 2) r9.out rfl
    have a9_3 := box_at (j := 3) r9.out rfl
    have a9_4 := box_at (j := 4) r9.out rfl
    have a5_0 := box_at (j := 0) r5.out rfl
    have a5_1 := box_at (j := 1) r5.out rfl
    have a5_2 := box_at (j := 2) r5.out rfl
    have a5_3 := box_at (j := 3) r5.out rfl
    have a5_4 := box_at (j := 4) r5.out rfl
    have a7_0 := box_at (j := 0) r7.out rfl
    have a7_1 := box_at (j := 1) r7.out rfl
    have a7_2 := box_at (j := 2) r7.out rfl
    have a7_3 := box_at (j := 3) r7.out rfl
    have a7_4 := box_at (j := 4) r7.out rfl
    go_wp2_with fail
    refine (hsm.out _ _ _ _ xg.out xU.out).mono ?_
    rintro e w8 ⟨rfl, N0⟩
    clear a9_0 a9_1 a9_2 a9_3 a9_4 a5_0 a5_1 a5_2 a5_3 a5_4 a7_0 a7_1 a7_2 a7_3 a7_4
    have N := hid N0
    clear N0
    replace D := hid (D.out.step N.out)
    replace r3 := hid ((N.out.block _ (lt_of_block r3.out)).trans r3.out)
    replace r5 := hid ((N.out.block _ (lt_of_block r5.out)).trans r5.out)
    replace r7 := hid ((N.out.block _ (lt_of_block r7.out)).trans r7.out)
    replace r9 := hid ((N.out.block _ (lt_of_block r9.out)).trans r9.out)
    replace xV := hid (xV.out.later N.out)
    replace xU := hid (xU.out.later N.out)
    replace xx := hid (xx.out.later N.out)
    replace xg := hid (xg.out.later N.out)
    clear N
    have a7_0 := box_at (j := 0) r7.out rfl
    have a7_1 := box_at (j := 1) r7.out rfl
    have a7_2 := box_at (j := 2) r7.out rfl
    have a7_3 := box_at (j := 3) r7.out rfl
    have a7_4 := box_at (j := 4) r7.out rfl
    go_wp2_with fail
    refine (hgd.out _ _ D.out xx.out).mono ?_
    rintro e w9 ⟨rfl, N0⟩
    clear a7_0 a7_1 a7_2 a7_3 a7_4
    have N := hid N0
    clear N0
    replace D := hid (D.out.step N.out)
    replace r3 := hid ((N.out.block _ (lt_of_block r3.out)).trans r3.out)
    replace r5 := hid ((N.out.block _ (lt_of_block r5.out)).trans r5.out)
    replace r7 := hid ((N.out.block _ (lt_of_block r7.out)).trans r7.out)
    replace r9 := hid ((N.out.block _ (lt_of_block r9.out)).trans r9.out)
    replace xV := hid (xV.out.later N.out)
    replace xU := hid (xU.out.later N.out)
    replace xx := hid (xx.out.later N.out)
    replace xg := hid (xg.out.later N.out)
    clear N
    have a3_0 := box_at (j := 0) r3.out rfl
    have a3_1 := box_at (j := 1) r3.out rfl
    have a3_2 := box_at (j := 2) r3.out rfl
    have a3_3 := box_at (j := 3) r3.out rfl
    have a3_4 := box_at (j := 4) r3.out rfl
    go_wp2_with fail
    refine (hgv.out _ _ D.out xV.out).mono ?_
    rintro e w10 ⟨cs_, rfl, N0, xo_⟩
    clear a3_0 a3_1 a3_2 a3_3 a3_4
    obtain ⟨ok, on, ot, ol, ofn, ofv⟩ := O0
    obtain ⟨ka, kc, kf, kg, rfl, _⟩ := xo_.inv
    replace xo_ := hid xo_.now_free
    have N := hid N0
    clear N0
    replace D := hid (D.out.step N.out)
    replace r3 := hid ((N.out.block _ (lt_of_block r3.out)).trans r3.out)
    replace r5 := hid ((N.out.block _ (lt_of_block r5.out)).trans r5.out)
    replace r7 := hid ((N.out.block _ (lt_of_block r7.out)).trans r7.out)
    replace r9 := hid ((N.out.block _ (lt_of_block r9.out)).trans r9.out)
    replace xV := hid (xV.out.later N.out)
    replace xU := hid (xU.out.later N.out)
    replace xx := hid (xx.out.later N.out)
    replace xg := hid (xg.out.later N.out)
    have xo := xo_
    clear xo_
    clear N
    go_upto_region 11 with fail
    obtain ⟨w11, hw_⟩ : ∃ x, x = w10.alloc (.cells #[.int .i64 ok, .int .i64 on, .string ot, .slice ka ol.length kc, .slice kf ofv.length kg] 25) := ⟨_, rfl⟩
    have N : Hid (Below w10.heap.size w10 w11) := by show Below _ _ _; rw [hw_]; exact below_new _ _
    have r11_ : Hid (w11.heap[w10.heap.size]? = some (.cells #[.int .i64 ok, .int .i64 on, .string ot, .slice ka ol.length kc, .slice kf ofv.length kg] 25 (0, 0))) := by show _ = _; rw [hw_]; exact heap_alloc_new _ _
    rw [← hw_]
    clear hw_
    replace D := hid (D.out.step N.out)
    replace r3 := hid ((N.out.block _ (lt_of_block r3.out)).trans r3.out)
    replace r5 := hid ((N.out.block _ (lt_of_block r5.out)).trans r5.out)
    replace r7 := hid ((N.out.block _ (lt_of_block r7.out)).trans r7.out)
    replace r9 := hid ((N.out.block _ (lt_of_block r9.out)).trans r9.out)
    replace xV := hid (xV.out.later N.out)
    replace xU := hid (xU.out.later N.out)
    replace xx := hid (xx.out.later N.out)
    replace xg := hid (xg.out.later N.out)
    replace xo := hid (xo.out.later N.out)
    clear N
    have r11 := r11_
    clear r11_
    have a3_0 := box_at (j := 0) r3.out rfl
    have a3_1 := box_at (j := 1) r3.out rfl
    have a3_2 := box_at (j := 2) r3.out rfl
    have a3_3 := box_at (j := 3) r3.out rfl
    have a3_4 := box_at (j := 4) r3.out rfl
    go_wp2_with fail
    refine (hus.out _ _ D.out xV.out).mono ?_
    rintro e w12 ⟨cs_, rfl, N0, xu_⟩
    clear a3_0 a3_1 a3_2 a3_3 a3_4
    obtain ⟨zk, zn, zt, zl, zfn, zfv⟩ := UV
    obtain ⟨ma, mc, mf, mg, rfl, _⟩ := xu_.inv
    replace xu_ := hid xu_.now_free
    have N := hid N0
    clear N0
    replace D := hid (D.out.step N.out)
    replace r3 := hid ((N.out.block _ (lt_of_block r3.out)).trans r3.out)
    replace r5 := hid ((N.out.block _ (lt_of_block r5.out)).trans r5.out)
    replace r7 := hid ((N.out.block _ (lt_of_block r7.out)).trans r7.out)
    replace r9 := hid ((N.out.block _ (lt_of_block r9.out)).trans r9.out)
    replace r11 := hid ((N.out.block _ (lt_of_block r11.out)).trans r11.out)
    replace xV := hid (xV.out.later N.out)
    replace xU := hid (xU.out.later N.out)
    replace xx := hid (xx.out.later N.out)
    replace xg := hid (xg.out.later N.out)
    replace xo := hid (xo.out.later N.out)
    have xu := xu_
    clear xu_
    clear N
    go_upto_region 12 with fail
    obtain ⟨w13, hw_⟩ : ∃ x, x = w12.alloc (.cells #[.int .i64 zk, .int .i64 zn, .string zt, .slice ma zl.length mc, .slice mf zfv.length mg] 25) := ⟨_, rfl⟩
    have N : Hid (Below w12.heap.size w12 w13) := by show Below _ _ _; rw [hw_]; exact below_new _ _
    have r13_ : Hid (w13.heap[w12.heap.size]? = some (.cells #[.int .i64 zk, .int .i64 zn, .string zt, .slice ma zl.length mc, .slice mf zfv.length mg] 25 (0, 0))) := by show _ = _; rw [hw_]; exact heap_alloc_new _ _
    rw [← hw_]
    clear hw_
    replace D := hid (D.out.step N.out)
    replace r3 := hid ((N.out.block _ (lt_of_block r3.out)).trans r3.out)
    replace r5 := hid ((N.out.block _ (lt_of_block r5.out)).trans r5.out)
    replace r7 := hid ((N.out.block _ (lt_of_block r7.out)).trans r7.out)
    replace r9 := hid ((N.out.block _ (lt_of_block r9.out)).trans r9.out)
    replace r11 := hid ((N.out.block _ (lt_of_block r11.out)).trans r11.out)
    replace xV := hid (xV.out.later N.out)
    replace xU := hid (xU.out.later N.out)
    replace xx := hid (xx.out.later N.out)
    replace xg := hid (xg.out.later N.out)
    replace xo := hid (xo.out.later N.out)
    replace xu := hid (xu.out.later N.out)
    clear N
    have r13 := r13_
    clear r13_
    by_cases hUE : UE = 0
    · subst hUE
      obtain ⟨hBt, s, hs1, hs2, hs3, hs5, hs6, hs7⟩ := hC.out rfl
      subst hBt
      have hs2c := hset2
      replace hs1 := hid hs1
      replace hs5 := hid hs5
      replace hs6 := hid hs6
      replace hs7 := hid hs7
      clear hC
      go_wp2_with fail
      refine (hsp.out _ D.out).mono ?_
      rintro e w14 hs_
      obtain ⟨N0, vl, rfl, ys_⟩ := hspa.out _ _ _ hs_
      obtain ⟨sa, sc, rfl, hb1, hb2, _⟩ := id ys_
      have hla : aa.length ≤ 9223372036854775807 := Nat.le_trans hb1 hb2
      clear hs_ hb1 hb2
      have hE : errS true = 0 := rfl
      rw [hE]
      clear hE
      have N := hid N0
      clear N0
      replace D := hid (D.out.step N.out)
      replace r3 := hid ((N.out.block _ (lt_of_block r3.out)).trans r3.out)
      replace r5 := hid ((N.out.block _ (lt_of_block r5.out)).trans r5.out)
      replace r7 := hid ((N.out.block _ (lt_of_block r7.out)).trans r7.out)
      replace r9 := hid ((N.out.block _ (lt_of_block r9.out)).trans r9.out)
      replace r11 := hid ((N.out.block _ (lt_of_block r11.out)).trans r11.out)
      replace r13 := hid ((N.out.block _ (lt_of_block r13.out)).trans r13.out)
      replace xV := hid (xV.out.later N.out)
      replace xU := hid (xU.out.later N.out)
      replace xx := hid (xx.out.later N.out)
      replace xg := hid (xg.out.later N.out)
      replace xo := hid (xo.out.later N.out)
      replace xu := hid (xu.out.later N.out)
      have xs := hid ys_
      clear ys_
      clear N
      obtain ⟨b1, o1, rfl, c1⟩ := xs.out.at_ hs1.out
      have hl0 : ((aa.length : Int) == 0) = false := beq_false_of_ne (by omega)
      have hl1 : ¬ aa = [] := fun e => by rw [e] at hs3; simp at hs3
      have hl2 : ¬ aa.length = 0 := by omega
      obtain ⟨m, hm⟩ : ∃ m, m = aa.length - 1 := ⟨_, rfl⟩
      rw [← hm] at c1
      have e1 : IntKind.i64.wrap ((aa.length : Int) - 1) = (m : Int) := by rw [IntWalk.i64_in _ (by omega)]; omega
      have hlt : m < aa.length := by omega
      have hse : s.toList.isEmpty = false := by
        rw [ByteArray.toList_eq]
        cases hq : s.data.toList with
        | nil => rw [hq] at hs2; simp at hs2
        | cons a r => rfl
      clear hm
      have a13_0 := box_at (j := 0) r13.out rfl
      have a13_1 := box_at (j := 1) r13.out rfl
      have a13_2 := box_at (j := 2) r13.out rfl
      have a13_3 := box_at (j := 3) r13.out rfl
      have a13_4 := box_at (j := 4) r13.out rfl
      go_wp2_with fail
      refine (hgu.out _ _ D.out xu.out).mono ?_
      rintro e w15 ⟨cs_, rfl, N0, xl_⟩
      clear a13_0 a13_1 a13_2 a13_3 a13_4
      clear c1 e1 hlt hse hl0 hl1 hl2 hla
      obtain ⟨qk, qn, qt, ql, qfn, qfv⟩ := L0
      obtain ⟨ja, jc, jf, jg, rfl, _⟩ := xl_.inv
      replace xl_ := hid xl_.now_free
      have N := hid N0
      clear N0
      replace D := hid (D.out.step N.out)
      replace r3 := hid ((N.out.block _ (lt_of_block r3.out)).trans r3.out)
      replace r5 := hid ((N.out.block _ (lt_of_block r5.out)).trans r5.out)
      replace r7 := hid ((N.out.block _ (lt_of_block r7.out)).trans r7.out)
      replace r9 := hid ((N.out.block _ (lt_of_block r9.out)).trans r9.out)
      replace r11 := hid ((N.out.block _ (lt_of_block r11.out)).trans r11.out)
      replace r13 := hid ((N.out.block _ (lt_of_block r13.out)).trans r13.out)
      replace xV := hid (xV.out.later N.out)
      replace xU := hid (xU.out.later N.out)
      replace xx := hid (xx.out.later N.out)
      replace xg := hid (xg.out.later N.out)
      replace xo := hid (xo.out.later N.out)
      replace xu := hid (xu.out.later N.out)
      replace xs := hid (xs.out.later N.out)
      have xl := xl_
      clear xl_
      clear N
      go_upto_region 19 with fail
      obtain ⟨w16, hw_⟩ : ∃ x, x = w15.alloc (.cells #[.int .i64 qk, .int .i64 qn, .string qt, .slice ja ql.length jc, .slice jf qfv.length jg] 25) := ⟨_, rfl⟩
      have N : Hid (Below w15.heap.size w15 w16) := by show Below _ _ _; rw [hw_]; exact below_new _ _
      have r18_ : Hid (w16.heap[w15.heap.size]? = some (.cells #[.int .i64 qk, .int .i64 qn, .string qt, .slice ja ql.length jc, .slice jf qfv.length jg] 25 (0, 0))) := by show _ = _; rw [hw_]; exact heap_alloc_new _ _
      rw [← hw_]
      clear hw_
      replace D := hid (D.out.step N.out)
      replace r3 := hid ((N.out.block _ (lt_of_block r3.out)).trans r3.out)
      replace r5 := hid ((N.out.block _ (lt_of_block r5.out)).trans r5.out)
      replace r7 := hid ((N.out.block _ (lt_of_block r7.out)).trans r7.out)
      replace r9 := hid ((N.out.block _ (lt_of_block r9.out)).trans r9.out)
      replace r11 := hid ((N.out.block _ (lt_of_block r11.out)).trans r11.out)
      replace r13 := hid ((N.out.block _ (lt_of_block r13.out)).trans r13.out)
      replace xV := hid (xV.out.later N.out)
      replace xU := hid (xU.out.later N.out)
      replace xx := hid (xx.out.later N.out)
      replace xg := hid (xg.out.later N.out)
      replace xo := hid (xo.out.later N.out)
      replace xu := hid (xu.out.later N.out)
      replace xs := hid (xs.out.later N.out)
      replace xl := hid (xl.out.later N.out)
      clear N
      have r18 := r18_
      clear r18_
      cases IS with
      | false =>
        have hu := hs5.out rfl
        injection hu with i1 i2 i3 i4 i5 i6
        subst i1 i2 i3 i4 i5 i6
        have a13_0 := box_at (j := 0) r13.out rfl
        have a13_1 := box_at (j := 1) r13.out rfl
        have a13_2 := box_at (j := 2) r13.out rfl
        have a13_3 := box_at (j := 3) r13.out rfl
        have a13_4 := box_at (j := 4) r13.out rfl
        have a3_0 := box_at (j := 0) r3.out rfl
        have a3_1 := box_at (j := 1) r3.out rfl
        have a3_2 := box_at (j := 2) r3.out rfl
        have a3_3 := box_at (j := 3) r3.out rfl
        have a3_4 := box_at (j := 4) r3.out rfl
        go_wp2_with fail
        refine (hsm.out _ _ _ _ xu.out xV.out).mono ?_
        rintro e w17 ⟨rfl, N0⟩
        clear a13_0 a13_1 a13_2 a13_3 a13_4 a3_0 a3_1 a3_2 a3_3 a3_4
        have N := hid N0
        clear N0
        replace D := hid (D.out.step N.out)
        replace r3 := hid ((N.out.block _ (lt_of_block r3.out)).trans r3.out)
        replace r5 := hid ((N.out.block _ (lt_of_block r5.out)).trans r5.out)
        replace r7 := hid ((N.out.block _ (lt_of_block r7.out)).trans r7.out)
        replace r9 := hid ((N.out.block _ (lt_of_block r9.out)).trans r9.out)
        replace r11 := hid ((N.out.block _ (lt_of_block r11.out)).trans r11.out)
        replace r13 := hid ((N.out.block _ (lt_of_block r13.out)).trans r13.out)
        replace r18 := hid ((N.out.block _ (lt_of_block r18.out)).trans r18.out)
        replace xV := hid (xV.out.later N.out)
        replace xU := hid (xU.out.later N.out)
        replace xx := hid (xx.out.later N.out)
        replace xg := hid (xg.out.later N.out)
        replace xo := hid (xo.out.later N.out)
        replace xu := hid (xu.out.later N.out)
        replace xs := hid (xs.out.later N.out)
        replace xl := hid (xl.out.later N.out)
        clear N
        go_wp2_with fail
        go_ret
        exact ⟨rfl, D.out⟩
      | true =>
        have hu := hs6.out rfl
        subst hu
        have a3_0 := box_at (j := 0) r3.out rfl
        have a3_1 := box_at (j := 1) r3.out rfl
        have a3_2 := box_at (j := 2) r3.out rfl
        have a3_3 := box_at (j := 3) r3.out rfl
        have a3_4 := box_at (j := 4) r3.out rfl
        have a11_0 := box_at (j := 0) r11.out rfl
        have a11_1 := box_at (j := 1) r11.out rfl
        have a11_2 := box_at (j := 2) r11.out rfl
        have a11_3 := box_at (j := 3) r11.out rfl
        have a11_4 := box_at (j := 4) r11.out rfl
        go_wp2_with fail
        refine (hs2c.out _ _ _ D.out xV.out xo.out).mono ?_
        rintro e w17 ⟨cs_, rfl, N0, xa_⟩
        clear a3_0 a3_1 a3_2 a3_3 a3_4 a11_0 a11_1 a11_2 a11_3 a11_4
        replace xa_ : Rd _ (Free _ _) (.mk k n str l fn fv) cs_ := xa_
        obtain ⟨ha, hc, hf, hg, rfl, _⟩ := xa_.inv
        replace xa_ := hid xa_.now_free
        have N := hid N0
        clear N0
        replace D := hid (D.out.step N.out)
        replace r3 := hid ((N.out.block _ (lt_of_block r3.out)).trans r3.out)
        replace r5 := hid ((N.out.block _ (lt_of_block r5.out)).trans r5.out)
        replace r7 := hid ((N.out.block _ (lt_of_block r7.out)).trans r7.out)
        replace r9 := hid ((N.out.block _ (lt_of_block r9.out)).trans r9.out)
        replace r11 := hid ((N.out.block _ (lt_of_block r11.out)).trans r11.out)
        replace r13 := hid ((N.out.block _ (lt_of_block r13.out)).trans r13.out)
        replace r18 := hid ((N.out.block _ (lt_of_block r18.out)).trans r18.out)
        replace xV := hid (xV.out.later N.out)
        replace xU := hid (xU.out.later N.out)
        replace xx := hid (xx.out.later N.out)
        replace xg := hid (xg.out.later N.out)
        replace xo := hid (xo.out.later N.out)
        replace xu := hid (xu.out.later N.out)
        replace xs := hid (xs.out.later N.out)
        replace xl := hid (xl.out.later N.out)
        have xa := xa_
        clear xa_
        clear N
        go_upto_region 22 with fail
        obtain ⟨w18, hw_⟩ : ∃ x, x = w17.alloc (.cells #[.int .i64 k, .int .i64 n, .string str, .slice ha l.length hc, .slice hf fv.length hg] 25) := ⟨_, rfl⟩
        have N : Hid (Below w17.heap.size w17 w18) := by show Below _ _ _; rw [hw_]; exact below_new _ _
        have r20_ : Hid (w18.heap[w17.heap.size]? = some (.cells #[.int .i64 k, .int .i64 n, .string str, .slice ha l.length hc, .slice hf fv.length hg] 25 (0, 0))) := by show _ = _; rw [hw_]; exact heap_alloc_new _ _
        rw [← hw_]
        clear hw_
        replace D := hid (D.out.step N.out)
        replace r3 := hid ((N.out.block _ (lt_of_block r3.out)).trans r3.out)
        replace r5 := hid ((N.out.block _ (lt_of_block r5.out)).trans r5.out)
        replace r7 := hid ((N.out.block _ (lt_of_block r7.out)).trans r7.out)
        replace r9 := hid ((N.out.block _ (lt_of_block r9.out)).trans r9.out)
        replace r11 := hid ((N.out.block _ (lt_of_block r11.out)).trans r11.out)
        replace r13 := hid ((N.out.block _ (lt_of_block r13.out)).trans r13.out)
        replace r18 := hid ((N.out.block _ (lt_of_block r18.out)).trans r18.out)
        replace xV := hid (xV.out.later N.out)
        replace xU := hid (xU.out.later N.out)
        replace xx := hid (xx.out.later N.out)
        replace xg := hid (xg.out.later N.out)
        replace xo := hid (xo.out.later N.out)
        replace xu := hid (xu.out.later N.out)
        replace xs := hid (xs.out.later N.out)
        replace xl := hid (xl.out.later N.out)
        replace xa := hid (xa.out.later N.out)
        clear N
        have r20 := r20_
        clear r20_
        obtain ⟨c0, hc0⟩ : ∃ c, s.data.toList[0]? = some c := ⟨_, List.getElem?_eq_getElem (by omega)⟩
        obtain ⟨q0, q1⟩ := str_at hc0
        by_cases hd : 48 ≤ c0.toNat ∧ c0.toNat ≤ 57
        · have d1 : (48 : Int) ≤ (c0.toNat : Int) := by omega
          have d2 : (c0.toNat : Int) ≤ 57 := by omega
          clear hd hc0
          have a20_0 := box_at (j := 0) r20.out rfl
          have a20_1 := box_at (j := 1) r20.out rfl
          have a20_2 := box_at (j := 2) r20.out rfl
          have a20_3 := box_at (j := 3) r20.out rfl
          have a20_4 := box_at (j := 4) r20.out rfl
          have a3_0 := box_at (j := 0) r3.out rfl
          have a3_1 := box_at (j := 1) r3.out rfl
          have a3_2 := box_at (j := 2) r3.out rfl
          have a3_3 := box_at (j := 3) r3.out rfl
          have a3_4 := box_at (j := 4) r3.out rfl
          go_wp2_with fail
          refine (hsm.out _ _ _ _ xa.out xV.out).mono ?_
          rintro e w19 ⟨rfl, N0⟩
          clear a20_0 a20_1 a20_2 a20_3 a20_4 a3_0 a3_1 a3_2 a3_3 a3_4
          have N := hid N0
          clear N0
          replace D := hid (D.out.step N.out)
          replace r3 := hid ((N.out.block _ (lt_of_block r3.out)).trans r3.out)
          replace r5 := hid ((N.out.block _ (lt_of_block r5.out)).trans r5.out)
          replace r7 := hid ((N.out.block _ (lt_of_block r7.out)).trans r7.out)
          replace r9 := hid ((N.out.block _ (lt_of_block r9.out)).trans r9.out)
          replace r11 := hid ((N.out.block _ (lt_of_block r11.out)).trans r11.out)
          replace r13 := hid ((N.out.block _ (lt_of_block r13.out)).trans r13.out)
          replace r18 := hid ((N.out.block _ (lt_of_block r18.out)).trans r18.out)
          replace r20 := hid ((N.out.block _ (lt_of_block r20.out)).trans r20.out)
          replace xV := hid (xV.out.later N.out)
          replace xU := hid (xU.out.later N.out)
          replace xx := hid (xx.out.later N.out)
          replace xg := hid (xg.out.later N.out)
          replace xo := hid (xo.out.later N.out)
          replace xu := hid (xu.out.later N.out)
          replace xs := hid (xs.out.later N.out)
          replace xl := hid (xl.out.later N.out)
          replace xa := hid (xa.out.later N.out)
          clear N
          go_wp2_with fail
          go_ret
          exact ⟨rfl, D.out⟩
        · have hl := hs7.out (by simp) (place_first hc0 hd)
          subst hl
          by_cases hd1 : 48 ≤ c0.toNat
          · have d1 : (48 : Int) ≤ (c0.toNat : Int) := by omega
            have d2 : ¬ (c0.toNat : Int) ≤ 57 := fun h => hd ⟨hd1, by omega⟩
            clear hd hd1 hc0
            have a20_0 := box_at (j := 0) r20.out rfl
            have a20_1 := box_at (j := 1) r20.out rfl
            have a20_2 := box_at (j := 2) r20.out rfl
            have a20_3 := box_at (j := 3) r20.out rfl
            have a20_4 := box_at (j := 4) r20.out rfl
            have a3_0 := box_at (j := 0) r3.out rfl
            have a3_1 := box_at (j := 1) r3.out rfl
            have a3_2 := box_at (j := 2) r3.out rfl
            have a3_3 := box_at (j := 3) r3.out rfl
            have a3_4 := box_at (j := 4) r3.out rfl
            go_wp2_with fail
            refine (hsm.out _ _ _ _ xa.out xV.out).mono ?_
            rintro e w19 ⟨rfl, N0⟩
            clear a20_0 a20_1 a20_2 a20_3 a20_4 a3_0 a3_1 a3_2 a3_3 a3_4
            have N := hid N0
            clear N0
            replace D := hid (D.out.step N.out)
            replace r3 := hid ((N.out.block _ (lt_of_block r3.out)).trans r3.out)
            replace r5 := hid ((N.out.block _ (lt_of_block r5.out)).trans r5.out)
            replace r7 := hid ((N.out.block _ (lt_of_block r7.out)).trans r7.out)
            replace r9 := hid ((N.out.block _ (lt_of_block r9.out)).trans r9.out)
            replace r11 := hid ((N.out.block _ (lt_of_block r11.out)).trans r11.out)
            replace r13 := hid ((N.out.block _ (lt_of_block r13.out)).trans r13.out)
            replace r18 := hid ((N.out.block _ (lt_of_block r18.out)).trans r18.out)
            replace r20 := hid ((N.out.block _ (lt_of_block r20.out)).trans r20.out)
            replace xV := hid (xV.out.later N.out)
            replace xU := hid (xU.out.later N.out)
            replace xx := hid (xx.out.later N.out)
            replace xg := hid (xg.out.later N.out)
            replace xo := hid (xo.out.later N.out)
            replace xu := hid (xu.out.later N.out)
            replace xs := hid (xs.out.later N.out)
            replace xl := hid (xl.out.later N.out)
            replace xa := hid (xa.out.later N.out)
            clear N
            go_wp2_with fail
            go_ret
            exact ⟨rfl, D.out⟩
          · have d1 : ¬ (48 : Int) ≤ (c0.toNat : Int) := by omega
            clear hd hd1 hc0
            have a20_0 := box_at (j := 0) r20.out rfl
            have a20_1 := box_at (j := 1) r20.out rfl
            have a20_2 := box_at (j := 2) r20.out rfl
            have a20_3 := box_at (j := 3) r20.out rfl
            have a20_4 := box_at (j := 4) r20.out rfl
            have a3_0 := box_at (j := 0) r3.out rfl
            have a3_1 := box_at (j := 1) r3.out rfl
            have a3_2 := box_at (j := 2) r3.out rfl
            have a3_3 := box_at (j := 3) r3.out rfl
            have a3_4 := box_at (j := 4) r3.out rfl
            go_wp2_with fail
            refine (hsm.out _ _ _ _ xa.out xV.out).mono ?_
            rintro e w19 ⟨rfl, N0⟩
            clear a20_0 a20_1 a20_2 a20_3 a20_4 a3_0 a3_1 a3_2 a3_3 a3_4
            have N := hid N0
            clear N0
            replace D := hid (D.out.step N.out)
            replace r3 := hid ((N.out.block _ (lt_of_block r3.out)).trans r3.out)
            replace r5 := hid ((N.out.block _ (lt_of_block r5.out)).trans r5.out)
            replace r7 := hid ((N.out.block _ (lt_of_block r7.out)).trans r7.out)
            replace r9 := hid ((N.out.block _ (lt_of_block r9.out)).trans r9.out)
            replace r11 := hid ((N.out.block _ (lt_of_block r11.out)).trans r11.out)
            replace r13 := hid ((N.out.block _ (lt_of_block r13.out)).trans r13.out)
            replace r18 := hid ((N.out.block _ (lt_of_block r18.out)).trans r18.out)
            replace r20 := hid ((N.out.block _ (lt_of_block r20.out)).trans r20.out)
            replace xV := hid (xV.out.later N.out)
            replace xU := hid (xU.out.later N.out)
            replace xx := hid (xx.out.later N.out)
            replace xg := hid (xg.out.later N.out)
            replace xo := hid (xo.out.later N.out)
            replace xu := hid (xu.out.later N.out)
            replace xs := hid (xs.out.later N.out)
            replace xl := hid (xl.out.later N.out)
            replace xa := hid (xa.out.later N.out)
            clear N
            go_wp2_with fail
            go_ret
            exact ⟨rfl, D.out⟩
    · have hi := hB.out hUE
      subst hi
      go_wp2_with fail
      go_ret
      exact ⟨rfl, D.out⟩
  · clear hA
    have a3_0 := box_at (j := 0) r3.out rfl
    have a3_1 := box_at (j := 1) r3.out rfl
    have a3_2 := box_at (j := 2) r3.out rfl
    have a3_3 := box_at (j := 3) r3.out rfl
    have a3_4 := box_at (j := 4) r3.out rfl
    go_wp2_with fail
    refine (hgv.out _ _ D.out xV.out).mono ?_
    rintro e w6 ⟨cs_, rfl, N0, xo_⟩
    clear a3_0 a3_1 a3_2 a3_3 a3_4
    obtain ⟨ok, on, ot, ol, ofn, ofv⟩ := O0
    obtain ⟨ka, kc, kf, kg, rfl, _⟩ := xo_.inv
    replace xo_ := hid xo_.now_free
    have N := hid N0
    clear N0
    replace D := hid (D.out.step N.out)
    replace r3 := hid ((N.out.block _ (lt_of_block r3.out)).trans r3.out)
    replace r5 := hid ((N.out.block _ (lt_of_block r5.out)).trans r5.out)
    replace r7 := hid ((N.out.block _ (lt_of_block r7.out)).trans r7.out)
    replace xV := hid (xV.out.later N.out)
    replace xU := hid (xU.out.later N.out)
    replace xx := hid (xx.out.later N.out)
    have xo := xo_
    clear xo_
    clear N
    go_upto_region 11 with fail
    obtain ⟨w7, hw_⟩ : ∃ x, x = w6.alloc (.cells #[.int .i64 ok, .int .i64 on, .string ot, .slice ka ol.length kc, .slice kf ofv.length kg] 25) := ⟨_, rfl⟩
    have N : Hid (Below w6.heap.size w6 w7) := by show Below _ _ _; rw [hw_]; exact below_new _ _
    have r11_ : Hid (w7.heap[w6.heap.size]? = some (.cells #[.int .i64 ok, .int .i64 on, .string ot, .slice ka ol.length kc, .slice kf ofv.length kg] 25 (0, 0))) := by show _ = _; rw [hw_]; exact heap_alloc_new _ _
    rw [← hw_]
    clear hw_
    replace D := hid (D.out.step N.out)
    replace r3 := hid ((N.out.block _ (lt_of_block r3.out)).trans r3.out)
    replace r5 := hid ((N.out.block _ (lt_of_block r5.out)).trans r5.out)
    replace r7 := hid ((N.out.block _ (lt_of_block r7.out)).trans r7.out)
    replace xV := hid (xV.out.later N.out)
    replace xU := hid (xU.out.later N.out)
    replace xx := hid (xx.out.later N.out)
    replace xo := hid (xo.out.later N.out)
    clear N
    have r11 := r11_
    clear r11_
    have a3_0 := box_at (j := 0) r3.out rfl
    have a3_1 := box_at (j := 1) r3.out rfl
    have a3_2 := box_at (j := 2) r3.out rfl
    have a3_3 := box_at (j := 3) r3.out rfl
    have a3_4 := box_at (j := 4) r3.out rfl
    go_wp2_with fail
    refine (hus.out _ _ D.out xV.out).mono ?_
    rintro e w8 ⟨cs_, rfl, N0, xu_⟩
    clear a3_0 a3_1 a3_2 a3_3 a3_4
    obtain ⟨zk, zn, zt, zl, zfn, zfv⟩ := UV
    obtain ⟨ma, mc, mf, mg, rfl, _⟩ := xu_.inv
    replace xu_ := hid xu_.now_free
    have N := hid N0
    clear N0
    replace D := hid (D.out.step N.out)
    replace r3 := hid ((N.out.block _ (lt_of_block r3.out)).trans r3.out)
    replace r5 := hid ((N.out.block _ (lt_of_block r5.out)).trans r5.out)
    replace r7 := hid ((N.out.block _ (lt_of_block r7.out)).trans r7.out)
    replace r11 := hid ((N.out.block _ (lt_of_block r11.out)).trans r11.out)
    replace xV := hid (xV.out.later N.out)
    replace xU := hid (xU.out.later N.out)
    replace xx := hid (xx.out.later N.out)
    replace xo := hid (xo.out.later N.out)
    have xu := xu_
    clear xu_
    clear N
    go_upto_region 12 with fail
    obtain ⟨w9, hw_⟩ : ∃ x, x = w8.alloc (.cells #[.int .i64 zk, .int .i64 zn, .string zt, .slice ma zl.length mc, .slice mf zfv.length mg] 25) := ⟨_, rfl⟩
    have N : Hid (Below w8.heap.size w8 w9) := by show Below _ _ _; rw [hw_]; exact below_new _ _
    have r13_ : Hid (w9.heap[w8.heap.size]? = some (.cells #[.int .i64 zk, .int .i64 zn, .string zt, .slice ma zl.length mc, .slice mf zfv.length mg] 25 (0, 0))) := by show _ = _; rw [hw_]; exact heap_alloc_new _ _
    rw [← hw_]
    clear hw_
    replace D := hid (D.out.step N.out)
    replace r3 := hid ((N.out.block _ (lt_of_block r3.out)).trans r3.out)
    replace r5 := hid ((N.out.block _ (lt_of_block r5.out)).trans r5.out)
    replace r7 := hid ((N.out.block _ (lt_of_block r7.out)).trans r7.out)
    replace r11 := hid ((N.out.block _ (lt_of_block r11.out)).trans r11.out)
    replace xV := hid (xV.out.later N.out)
    replace xU := hid (xU.out.later N.out)
    replace xx := hid (xx.out.later N.out)
    replace xo := hid (xo.out.later N.out)
    replace xu := hid (xu.out.later N.out)
    clear N
    have r13 := r13_
    clear r13_
    by_cases hUE : UE = 0
    · subst hUE
      obtain ⟨hBt, s, hs1, hs2, hs3, hs5, hs6, hs7⟩ := hC.out rfl
      subst hBt
      have hs2c := hset2
      replace hs1 := hid hs1
      replace hs5 := hid hs5
      replace hs6 := hid hs6
      replace hs7 := hid hs7
      clear hC
      go_wp2_with fail
      refine (hsp.out _ D.out).mono ?_
      rintro e w10 hs_
      obtain ⟨N0, vl, rfl, ys_⟩ := hspa.out _ _ _ hs_
      obtain ⟨sa, sc, rfl, hb1, hb2, _⟩ := id ys_
      have hla : aa.length ≤ 9223372036854775807 := Nat.le_trans hb1 hb2
      clear hs_ hb1 hb2
      have hE : errS true = 0 := rfl
      rw [hE]
      clear hE
      have N := hid N0
      clear N0
      replace D := hid (D.out.step N.out)
      replace r3 := hid ((N.out.block _ (lt_of_block r3.out)).trans r3.out)
      replace r5 := hid ((N.out.block _ (lt_of_block r5.out)).trans r5.out)
      replace r7 := hid ((N.out.block _ (lt_of_block r7.out)).trans r7.out)
      replace r11 := hid ((N.out.block _ (lt_of_block r11.out)).trans r11.out)
      replace r13 := hid ((N.out.block _ (lt_of_block r13.out)).trans r13.out)
      replace xV := hid (xV.out.later N.out)
      replace xU := hid (xU.out.later N.out)
      replace xx := hid (xx.out.later N.out)
      replace xo := hid (xo.out.later N.out)
      replace xu := hid (xu.out.later N.out)
      have xs := hid ys_
      clear ys_
      clear N
      obtain ⟨b1, o1, rfl, c1⟩ := xs.out.at_ hs1.out
      have hl0 : ((aa.length : Int) == 0) = false := beq_false_of_ne (by omega)
      have hl1 : ¬ aa = [] := fun e => by rw [e] at hs3; simp at hs3
      have hl2 : ¬ aa.length = 0 := by omega
      obtain ⟨m, hm⟩ : ∃ m, m = aa.length - 1 := ⟨_, rfl⟩
      rw [← hm] at c1
      have e1 : IntKind.i64.wrap ((aa.length : Int) - 1) = (m : Int) := by rw [IntWalk.i64_in _ (by omega)]; omega
      have hlt : m < aa.length := by omega
      have hse : s.toList.isEmpty = false := by
        rw [ByteArray.toList_eq]
        cases hq : s.data.toList with
        | nil => rw [hq] at hs2; simp at hs2
        | cons a r => rfl
      clear hm
      have a13_0 := box_at (j := 0) r13.out rfl
      have a13_1 := box_at (j := 1) r13.out rfl
      have a13_2 := box_at (j := 2) r13.out rfl
      have a13_3 := box_at (j := 3) r13.out rfl
      have a13_4 := box_at (j := 4) r13.out rfl
      go_wp2_with fail
      refine (hgu.out _ _ D.out xu.out).mono ?_
      rintro e w11 ⟨cs_, rfl, N0, xl_⟩
      clear a13_0 a13_1 a13_2 a13_3 a13_4
      clear c1 e1 hlt hse hl0 hl1 hl2 hla
      obtain ⟨qk, qn, qt, ql, qfn, qfv⟩ := L0
      obtain ⟨ja, jc, jf, jg, rfl, _⟩ := xl_.inv
      replace xl_ := hid xl_.now_free
      have N := hid N0
      clear N0
      replace D := hid (D.out.step N.out)
      replace r3 := hid ((N.out.block _ (lt_of_block r3.out)).trans r3.out)
      replace r5 := hid ((N.out.block _ (lt_of_block r5.out)).trans r5.out)
      replace r7 := hid ((N.out.block _ (lt_of_block r7.out)).trans r7.out)
      replace r11 := hid ((N.out.block _ (lt_of_block r11.out)).trans r11.out)
      replace r13 := hid ((N.out.block _ (lt_of_block r13.out)).trans r13.out)
      replace xV := hid (xV.out.later N.out)
      replace xU := hid (xU.out.later N.out)
      replace xx := hid (xx.out.later N.out)
      replace xo := hid (xo.out.later N.out)
      replace xu := hid (xu.out.later N.out)
      replace xs := hid (xs.out.later N.out)
      have xl := xl_
      clear xl_
      clear N
      go_upto_region 19 with fail
      obtain ⟨w12, hw_⟩ : ∃ x, x = w11.alloc (.cells #[.int .i64 qk, .int .i64 qn, .string qt, .slice ja ql.length jc, .slice jf qfv.length jg] 25) := ⟨_, rfl⟩
      have N : Hid (Below w11.heap.size w11 w12) := by show Below _ _ _; rw [hw_]; exact below_new _ _
      have r18_ : Hid (w12.heap[w11.heap.size]? = some (.cells #[.int .i64 qk, .int .i64 qn, .string qt, .slice ja ql.length jc, .slice jf qfv.length jg] 25 (0, 0))) := by show _ = _; rw [hw_]; exact heap_alloc_new _ _
      rw [← hw_]
      clear hw_
      replace D := hid (D.out.step N.out)
      replace r3 := hid ((N.out.block _ (lt_of_block r3.out)).trans r3.out)
      replace r5 := hid ((N.out.block _ (lt_of_block r5.out)).trans r5.out)
      replace r7 := hid ((N.out.block _ (lt_of_block r7.out)).trans r7.out)
      replace r11 := hid ((N.out.block _ (lt_of_block r11.out)).trans r11.out)
      replace r13 := hid ((N.out.block _ (lt_of_block r13.out)).trans r13.out)
      replace xV := hid (xV.out.later N.out)
      replace xU := hid (xU.out.later N.out)
      replace xx := hid (xx.out.later N.out)
      replace xo := hid (xo.out.later N.out)
      replace xu := hid (xu.out.later N.out)
      replace xs := hid (xs.out.later N.out)
      replace xl := hid (xl.out.later N.out)
      clear N
      have r18 := r18_
      clear r18_
      cases IS with
      | false =>
        have hu := hs5.out rfl
        injection hu with i1 i2 i3 i4 i5 i6
        subst i1 i2 i3 i4 i5 i6
        have a13_0 := box_at (j := 0) r13.out rfl
        have a13_1 := box_at (j := 1) r13.out rfl
        have a13_2 := box_at (j := 2) r13.out rfl
        have a13_3 := box_at (j := 3) r13.out rfl
        have a13_4 := box_at (j := 4) r13.out rfl
        have a3_0 := box_at (j := 0) r3.out rfl
        have a3_1 := box_at (j := 1) r3.out rfl
        have a3_2 := box_at (j := 2) r3.out rfl
        have a3_3 := box_at (j := 3) r3.out rfl
        have a3_4 := box_at (j := 4) r3.out rfl
        go_wp2_with fail
        refine (hsm.out _ _ _ _ xu.out xV.out).mono ?_
        rintro e w13 ⟨rfl, N0⟩
        clear a13_0 a13_1 a13_2 a13_3 a13_4 a3_0 a3_1 a3_2 a3_3 a3_4
        have N := hid N0
        clear N0
        replace D := hid (D.out.step N.out)
        replace r3 := hid ((N.out.block _ (lt_of_block r3.out)).trans r3.out)
        replace r5 := hid ((N.out.block _ (lt_of_block r5.out)).trans r5.out)
        replace r7 := hid ((N.out.block _ (lt_of_block r7.out)).trans r7.out)
        replace r11 := hid ((N.out.block _ (lt_of_block r11.out)).trans r11.out)
        replace r13 := hid ((N.out.block _ (lt_of_block r13.out)).trans r13.out)
        replace r18 := hid ((N.out.block _ (lt_of_block r18.out)).trans r18.out)
        replace xV := hid (xV.out.later N.out)
        replace xU := hid (xU.out.later N.out)
        replace xx := hid (xx.out.later N.out)
        replace xo := hid (xo.out.later N.out)
        replace xu := hid (xu.out.later N.out)
        replace xs := hid (xs.out.later N.out)
        replace xl := hid (xl.out.later N.out)
        clear N
        go_wp2_with fail
        go_ret
        exact ⟨rfl, D.out⟩
      | true =>
        have hu := hs6.out rfl
        subst hu
        have a3_0 := box_at (j := 0) r3.out rfl
        have a3_1 := box_at (j := 1) r3.out rfl
        have a3_2 := box_at (j := 2) r3.out rfl
        have a3_3 := box_at (j := 3) r3.out rfl
        have a3_4 := box_at (j := 4) r3.out rfl
        have a11_0 := box_at (j := 0) r11.out rfl
        have a11_1 := box_at (j := 1) r11.out rfl
        have a11_2 := box_at (j := 2) r11.out rfl
        have a11_3 := box_at (j := 3) r11.out rfl
        have a11_4 := box_at (j := 4) r11.out rfl
        go_wp2_with fail
        refine (hs2c.out _ _ _ D.out xV.out xo.out).mono ?_
        rintro e w13 ⟨cs_, rfl, N0, xa_⟩
        clear a3_0 a3_1 a3_2 a3_3 a3_4 a11_0 a11_1 a11_2 a11_3 a11_4
        replace xa_ : Rd _ (Free _ _) (.mk k n str l fn fv) cs_ := xa_
        obtain ⟨ha, hc, hf, hg, rfl, _⟩ := xa_.inv
        replace xa_ := hid xa_.now_free
        have N := hid N0
        clear N0
        replace D := hid (D.out.step N.out)
        replace r3 := hid ((N.out.block _ (lt_of_block r3.out)).trans r3.out)
        replace r5 := hid ((N.out.block _ (lt_of_block r5.out)).trans r5.out)
        replace r7 := hid ((N.out.block _ (lt_of_block r7.out)).trans r7.out)
        replace r11 := hid ((N.out.block _ (lt_of_block r11.out)).trans r11.out)
        replace r13 := hid ((N.out.block _ (lt_of_block r13.out)).trans r13.out)
        replace r18 := hid ((N.out.block _ (lt_of_block r18.out)).trans r18.out)
        replace xV := hid (xV.out.later N.out)
        replace xU := hid (xU.out.later N.out)
        replace xx := hid (xx.out.later N.out)
        replace xo := hid (xo.out.later N.out)
        replace xu := hid (xu.out.later N.out)
        replace xs := hid (xs.out.later N.out)
        replace xl := hid (xl.out.later N.out)
        have xa := xa_
        clear xa_
        clear N
        go_upto_region 22 with fail
        obtain ⟨w14, hw_⟩ : ∃ x, x = w13.alloc (.cells #[.int .i64 k, .int .i64 n, .string str, .slice ha l.length hc, .slice hf fv.length hg] 25) := ⟨_, rfl⟩
        have N : Hid (Below w13.heap.size w13 w14) := by show Below _ _ _; rw [hw_]; exact below_new _ _
        have r20_ : Hid (w14.heap[w13.heap.size]? = some (.cells #[.int .i64 k, .int .i64 n, .string str, .slice ha l.length hc, .slice hf fv.length hg] 25 (0, 0))) := by show _ = _; rw [hw_]; exact heap_alloc_new _ _
        rw [← hw_]
        clear hw_
        replace D := hid (D.out.step N.out)
        replace r3 := hid ((N.out.block _ (lt_of_block r3.out)).trans r3.out)
        replace r5 := hid ((N.out.block _ (lt_of_block r5.out)).trans r5.out)
        replace r7 := hid ((N.out.block _ (lt_of_block r7.out)).trans r7.out)
        replace r11 := hid ((N.out.block _ (lt_of_block r11.out)).trans r11.out)
        replace r13 := hid ((N.out.block _ (lt_of_block r13.out)).trans r13.out)
        replace r18 := hid ((N.out.block _ (lt_of_block r18.out)).trans r18.out)
        replace xV := hid (xV.out.later N.out)
        replace xU := hid (xU.out.later N.out)
        replace xx := hid (xx.out.later N.out)
        replace xo := hid (xo.out.later N.out)
        replace xu := hid (xu.out.later N.out)
        replace xs := hid (xs.out.later N.out)
        replace xl := hid (xl.out.later N.out)
        replace xa := hid (xa.out.later N.out)
        clear N
        have r20 := r20_
        clear r20_
        obtain ⟨c0, hc0⟩ : ∃ c, s.data.toList[0]? = some c := ⟨_, List.getElem?_eq_getElem (by omega)⟩
        obtain ⟨q0, q1⟩ := str_at hc0
        by_cases hd : 48 ≤ c0.toNat ∧ c0.toNat ≤ 57
        · have d1 : (48 : Int) ≤ (c0.toNat : Int) := by omega
          have d2 : (c0.toNat : Int) ≤ 57 := by omega
          clear hd hc0
          have a20_0 := box_at (j := 0) r20.out rfl
          have a20_1 := box_at (j := 1) r20.out rfl
          have a20_2 := box_at (j := 2) r20.out rfl
          have a20_3 := box_at (j := 3) r20.out rfl
          have a20_4 := box_at (j := 4) r20.out rfl
          have a3_0 := box_at (j := 0) r3.out rfl
          have a3_1 := box_at (j := 1) r3.out rfl
          have a3_2 := box_at (j := 2) r3.out rfl
          have a3_3 := box_at (j := 3) r3.out rfl
          have a3_4 := box_at (j := 4) r3.out rfl
          go_wp2_with fail
          refine (hsm.out _ _ _ _ xa.out xV.out).mono ?_
          rintro e w15 ⟨rfl, N0⟩
          clear a20_0 a20_1 a20_2 a20_3 a20_4 a3_0 a3_1 a3_2 a3_3 a3_4
          have N := hid N0
          clear N0
          replace D := hid (D.out.step N.out)
          replace r3 := hid ((N.out.block _ (lt_of_block r3.out)).trans r3.out)
          replace r5 := hid ((N.out.block _ (lt_of_block r5.out)).trans r5.out)
          replace r7 := hid ((N.out.block _ (lt_of_block r7.out)).trans r7.out)
          replace r11 := hid ((N.out.block _ (lt_of_block r11.out)).trans r11.out)
          replace r13 := hid ((N.out.block _ (lt_of_block r13.out)).trans r13.out)
          replace r18 := hid ((N.out.block _ (lt_of_block r18.out)).trans r18.out)
          replace r20 := hid ((N.out.block _ (lt_of_block r20.out)).trans r20.out)
          replace xV := hid (xV.out.later N.out)
          replace xU := hid (xU.out.later N.out)
          replace xx := hid (xx.out.later N.out)
          replace xo := hid (xo.out.later N.out)
          replace xu := hid (xu.out.later N.out)
          replace xs := hid (xs.out.later N.out)
          replace xl := hid (xl.out.later N.out)
          replace xa := hid (xa.out.later N.out)
          clear N
          go_wp2_with fail
          go_ret
          exact ⟨rfl, D.out⟩
        · have hl := hs7.out (by simp) (place_first hc0 hd)
          subst hl
          by_cases hd1 : 48 ≤ c0.toNat
          · have d1 : (48 : Int) ≤ (c0.toNat : Int) := by omega
            have d2 : ¬ (c0.toNat : Int) ≤ 57 := fun h => hd ⟨hd1, by omega⟩
            clear hd hd1 hc0
            have a20_0 := box_at (j := 0) r20.out rfl
            have a20_1 := box_at (j := 1) r20.out rfl
            have a20_2 := box_at (j := 2) r20.out rfl
            have a20_3 := box_at (j := 3) r20.out rfl
            have a20_4 := box_at (j := 4) r20.out rfl
            have a3_0 := box_at (j := 0) r3.out rfl
            have a3_1 := box_at (j := 1) r3.out rfl
            have a3_2 := box_at (j := 2) r3.out rfl
            have a3_3 := box_at (j := 3) r3.out rfl
            have a3_4 := box_at (j := 4) r3.out rfl
            go_wp2_with fail
            refine (hsm.out _ _ _ _ xa.out xV.out).mono ?_
            rintro e w15 ⟨rfl, N0⟩
            clear a20_0 a20_1 a20_2 a20_3 a20_4 a3_0 a3_1 a3_2 a3_3 a3_4
            have N := hid N0
            clear N0
            replace D := hid (D.out.step N.out)
            replace r3 := hid ((N.out.block _ (lt_of_block r3.out)).trans r3.out)
            replace r5 := hid ((N.out.block _ (lt_of_block r5.out)).trans r5.out)
            replace r7 := hid ((N.out.block _ (lt_of_block r7.out)).trans r7.out)
            replace r11 := hid ((N.out.block _ (lt_of_block r11.out)).trans r11.out)
            replace r13 := hid ((N.out.block _ (lt_of_block r13.out)).trans r13.out)
            replace r18 := hid ((N.out.block _ (lt_of_block r18.out)).trans r18.out)
            replace r20 := hid ((N.out.block _ (lt_of_block r20.out)).trans r20.out)
            replace xV := hid (xV.out.later N.out)
            replace xU := hid (xU.out.later N.out)
            replace xx := hid (xx.out.later N.out)
            replace xo := hid (xo.out.later N.out)
            replace xu := hid (xu.out.later N.out)
            replace xs := hid (xs.out.later N.out)
            replace xl := hid (xl.out.later N.out)
            replace xa := hid (xa.out.later N.out)
            clear N
            go_wp2_with fail
            go_ret
            exact ⟨rfl, D.out⟩
          · have d1 : ¬ (48 : Int) ≤ (c0.toNat : Int) := by omega
            clear hd hd1 hc0
            have a20_0 := box_at (j := 0) r20.out rfl
            have a20_1 := box_at (j := 1) r20.out rfl
            have a20_2 := box_at (j := 2) r20.out rfl
            have a20_3 := box_at (j := 3) r20.out rfl
            have a20_4 := box_at (j := 4) r20.out rfl
            have a3_0 := box_at (j := 0) r3.out rfl
            have a3_1 := box_at (j := 1) r3.out rfl
            have a3_2 := box_at (j := 2) r3.out rfl
            have a3_3 := box_at (j := 3) r3.out rfl
            have a3_4 := box_at (j := 4) r3.out rfl
            go_wp2_with fail
            refine (hsm.out _ _ _ _ xa.out xV.out).mono ?_
            rintro e w15 ⟨rfl, N0⟩
            clear a20_0 a20_1 a20_2 a20_3 a20_4 a3_0 a3_1 a3_2 a3_3 a3_4
            have N := hid N0
            clear N0
            replace D := hid (D.out.step N.out)
            replace r3 := hid ((N.out.block _ (lt_of_block r3.out)).trans r3.out)
            replace r5 := hid ((N.out.block _ (lt_of_block r5.out)).trans r5.out)
            replace r7 := hid ((N.out.block _ (lt_of_block r7.out)).trans r7.out)
            replace r11 := hid ((N.out.block _ (lt_of_block r11.out)).trans r11.out)
            replace r13 := hid ((N.out.block _ (lt_of_block r13.out)).trans r13.out)
            replace r18 := hid ((N.out.block _ (lt_of_block r18.out)).trans r18.out)
            replace r20 := hid ((N.out.block _ (lt_of_block r20.out)).trans r20.out)
            replace xV := hid (xV.out.later N.out)
            replace xU := hid (xU.out.later N.out)
            replace xx := hid (xx.out.later N.out)
            replace xo := hid (xo.out.later N.out)
            replace xu := hid (xu.out.later N.out)
            replace xs := hid (xs.out.later N.out)
            replace xl := hid (xl.out.later N.out)
            replace xa := hid (xa.out.later N.out)
            clear N
            go_wp2_with fail
            go_ret
            exact ⟨rfl, D.out⟩
    · have hi := hB.out hUE
      subst hi
      go_wp2_with fail
      go_ret
      exact ⟨rfl, D.out⟩
end Go.Proofs.YthjihdpleclejaaDoor
