/-
  Walk: the law PathApart. No condition.
-/
import Derived.Test.YthjihdpleclejaaDoorMgPth25
import Derived.Test.YthjihdpleclejaaDoorMgPthV
namespace Go.Proofs.YthjihdpleclejaaDoor
open Go.RowKit Go.Proofs

/-- Told to differ, they do. -/
def DiffB (ap : Bool) (aa bb : List ByteArray) : Prop := ap = true → ∃ (i : Nat) (y z : ByteArray), aa[i]? = some y ∧ bb[i]? = some z ∧ y ≠ z

set_option maxRecDepth 100000 in
set_option maxHeartbeats 4000000 in
theorem apart_calls (V x : PVal) (hm : V.mass ≤ 33554432) (hmx : x.mass ≤ 33554432) (pa qa : ByteArray) (hpa : pa.size < 4294967281) (hqa : qa.size < 4294967281) {w : World} {cs xs : List Value} (hT : Tabs w) (hM : Mx w) (hV : Rd w (Now w) V cs) (hx : Rd w (Now w) x xs) :
    Calls Tryd.prog 4 #[.agg cs.toArray, .string pa, .string qa, .agg xs.toArray] w fun e w' => e = .returned (.bool true) ∧ Below w.heap.size w w' := by
  have hva := hid (fun la c' w h => vast_calls [V, x] la c' w h (by simp))
  have hst := hid (fun (w' : World) cs xs (h : Below w.heap.size w w') hv hx => set_calls pa hpa V x (by omega) (by omega) (w := w') (cs := cs) (xs := xs) (Tabs.stays w w' hT h) (hM.stays h) hv hx)
  have hsp := hid (fun (w' : World) (h : Below w.heap.size w w') => steps_calls pa w' hpa (hM.stays h))
  have hsq := hid (fun (w' : World) (h : Below w.heap.size w w') => steps_calls qa w' hqa (hM.stays h))
  have hgt := hid (fun (U : PVal) (hU : U.mass ≤ 1000000000000) (w' : World) cs (h : Below w.heap.size w w') hx => get_calls copy_deep qa hqa U hU (w := w') (cs := cs) (Tabs.stays w w' hT h) (hM.stays h) hx)
  have haw := hid (fun (w' : World) (h : Below w.heap.size w w') => awake6_calls w' (Tabs.stays w w' hT h) (hM.stays h))
  have hsm := hid (fun (V : PVal) w cs cs' h h' => same6_calls V V true (by simp) w cs cs' h h')
  have hze := hid (fun w cs h => zero6_calls zeroP true (by simp) w cs h)
  have hbad : Hid ((setP V pa x).2 ≠ 0 → (setP V pa x).1 = zeroP) := fun h => done_bad h
  have hok : Hid ((setP V pa x).2 = 0 → (stepsP pa).isSome = true) := fun h => by obtain ⟨_, _, a, h2, _⟩ := done_ok h; rw [h2]; rfl
  have hap : Hid ((setP V pa x).2 = 0 → (stepsP pa).isSome = true → (stepsP qa).isSome = true → (∃ (i : Nat) (y z : ByteArray), ((stepsP pa).getD [])[i]? = some y ∧ ((stepsP qa).getD [])[i]? = some z ∧ y ≠ z) → gotP (setP V pa x).1 qa = gotP V qa) := fun h h1 h2 h3 => by
    obtain ⟨a, ha⟩ := Option.isSome_iff_exists.1 h1
    obtain ⟨b, hb⟩ := Option.isSome_iff_exists.1 h2
    rw [ha, hb] at h3
    exact set_apart hV.fits h ha hb h3
  have hms : Hid ((setP V pa x).1.mass ≤ 1000000000000) := by have := set_mass (M := 33554432) (v := V) (x := x) (p := pa) (by omega) hm hmx; show _ ≤ _; omega
  have hmv : Hid (V.mass ≤ 1000000000000) := by show _ ≤ _; omega
  unfold Done6 at hst
  obtain ⟨GV, hGV⟩ : ∃ GV, GV = gotP V qa := ⟨_, rfl⟩
  obtain ⟨SR, hSR⟩ : ∃ SR, SR = setP V pa x := ⟨_, rfl⟩
  rw [← hSR] at hst hbad hok hap hms
  obtain ⟨SV, SE⟩ := SR
  simp only at hst hbad hok hap hms
  clear hSR
  obtain ⟨GS, hGS⟩ : ∃ GS, GS = gotP SV qa := ⟨_, rfl⟩
  have hgv := hid (hgt.out V hmv.out)
  have hgs := hid (hgt.out SV hms.out)
  rw [← hGV] at hgv hap
  rw [← hGS] at hgs hap
  unfold Got6 at hgv hgs
  obtain ⟨QP, hQP⟩ : ∃ Q, Q = stepsP pa := ⟨_, rfl⟩
  obtain ⟨QQ, hQQ⟩ : ∃ Q, Q = stepsP qa := ⟨_, rfl⟩
  rw [← hQP] at hsp hok hap
  rw [← hQQ] at hsq hap
  obtain ⟨aa, haa⟩ : ∃ ll, ll = QP.getD [] := ⟨_, rfl⟩
  obtain ⟨BP, hBP⟩ : ∃ B, B = QP.isSome := ⟨_, rfl⟩
  obtain ⟨bb, hbb⟩ : ∃ ll, ll = QQ.getD [] := ⟨_, rfl⟩
  obtain ⟨BQ, hBQ⟩ : ∃ B, B = QQ.isSome := ⟨_, rfl⟩
  rw [← hBP] at hok
  rw [← hBP, ← hBQ, ← haa, ← hbb] at hap
  have hspa : Hid (∀ w' e w2, Stepped QP w' e w2 → Below w'.heap.size w' w2 ∧ ∃ v, e = .returned (.tuple #[v, .int .i64 (errS BP)]) ∧ StrsAt w2 (Now w2) aa v) := fun w' e w2 h => by
    have := steps_any h
    rw [← haa, ← hBP] at this
    exact this
  have hsqa : Hid (∀ w' e w2, Stepped QQ w' e w2 → Below w'.heap.size w' w2 ∧ ∃ v, e = .returned (.tuple #[v, .int .i64 (errS BQ)]) ∧ StrsAt w2 (Now w2) bb v) := fun w' e w2 h => by
    have := steps_any h
    rw [← hbb, ← hBQ] at this
    exact this
  clear hGV hGS hQP hQQ haa hBP hbb hBQ hT hM hm hmx hms hmv hgt
  have xV := hid hV
  have xU := hid hx
  generalize vast [V, x] = T at *
  obtain ⟨k, n, str, l, fn, fv⟩ := V
  obtain ⟨la, lc, fa, fc, rfl, _⟩ := hV.inv
  obtain ⟨uk, un, ut, ul, ufn, ufv⟩ := x
  obtain ⟨ua, uc, va, vc, rfl, _⟩ := hx.inv
  clear hV hx
  go_enter Tryd.func4, Tryd.ntmps4
  have D := hid (Below.refl w.heap.size w)
  go_upto_region 1 with fail
  obtain ⟨w1, hw_⟩ : ∃ x, x = (w.alloc (.cells #[.int .i64 k, .int .i64 n, .string str, .slice la l.length lc, .slice fa fv.length fc] 25)).alloc (.cells #[.int .i64 uk, .int .i64 un, .string ut, .slice ua ul.length uc, .slice va ufv.length vc] 25) := ⟨_, rfl⟩
  have N : Hid (Below w.heap.size w w1) := by show Below _ _ _; rw [hw_]; exact (below_new _ _).step (below_new _ _)
  have r4_ : Hid (w1.heap[w.heap.size]? = some (.cells #[.int .i64 k, .int .i64 n, .string str, .slice la l.length lc, .slice fa fv.length fc] 25 (0, 0))) := by show _ = _; rw [hw_]; exact al_old (al_at rfl)
  have r7_ : Hid (w1.heap[w.heap.size + 1]? = some (.cells #[.int .i64 uk, .int .i64 un, .string ut, .slice ua ul.length uc, .slice va ufv.length vc] 25 (0, 0))) := by show _ = _; rw [hw_]; exact al_at (by simp)
  rw [← hw_]
  clear hw_
  replace D := hid (D.out.step N.out)
  replace xV := hid (xV.out.later N.out)
  replace xU := hid (xU.out.later N.out)
  clear N
  have r4 := r4_
  have r7 := r7_
  clear r4_ r7_
  go_wp2_with fail
  refine (haw.out _ D.out).mono ?_
  rintro e w2 ⟨rfl, N0⟩
  have N := hid N0
  clear N0
  replace D := hid (D.out.step N.out)
  replace r4 := hid ((N.out.block _ (lt_of_block r4.out)).trans r4.out)
  replace r7 := hid ((N.out.block _ (lt_of_block r7.out)).trans r7.out)
  replace xV := hid (xV.out.later N.out)
  replace xU := hid (xU.out.later N.out)
  clear N
  have a4_0 := box_at (j := 0) r4.out rfl
  have a4_1 := box_at (j := 1) r4.out rfl
  have a4_2 := box_at (j := 2) r4.out rfl
  have a4_3 := box_at (j := 3) r4.out rfl
  have a4_4 := box_at (j := 4) r4.out rfl
  have a7_0 := box_at (j := 0) r7.out rfl
  have a7_1 := box_at (j := 1) r7.out rfl
  have a7_2 := box_at (j := 2) r7.out rfl
  have a7_3 := box_at (j := 3) r7.out rfl
  have a7_4 := box_at (j := 4) r7.out rfl
  go_wp2_with fail
  refine (hva.out (some ⟨w2.heap.size, 0, none⟩) 2 _ (rdL_pair (x := .mk k n str l fn fv) (y := .mk uk un ut ul ufn ufv) (al_at (o := (.cells #[.int .i64 k, .int .i64 n, .string str, .slice la l.length lc, .slice fa fv.length fc, .int .i64 uk, .int .i64 un, .string ut, .slice ua ul.length uc, .slice va ufv.length vc] 25)) rfl) (lt_of_block (al_at (o := (.cells #[.int .i64 k, .int .i64 n, .string str, .slice la l.length lc, .slice fa fv.length fc, .int .i64 uk, .int .i64 un, .string ut, .slice ua ul.length uc, .slice va ufv.length vc] 25)) rfl)) (xV.out.later (below_new _ _)) (xU.out.later (below_new _ _)))).mono ?_
  rintro e w3 ⟨rfl, N0⟩
  clear a4_0 a4_1 a4_2 a4_3 a4_4 a7_0 a7_1 a7_2 a7_3 a7_4
  replace N0 := (below_new w2 (.cells #[.int .i64 k, .int .i64 n, .string str, .slice la l.length lc, .slice fa fv.length fc, .int .i64 uk, .int .i64 un, .string ut, .slice ua ul.length uc, .slice va ufv.length vc] 25)).step N0
  have N := hid N0
  clear N0
  replace D := hid (D.out.step N.out)
  replace r4 := hid ((N.out.block _ (lt_of_block r4.out)).trans r4.out)
  replace r7 := hid ((N.out.block _ (lt_of_block r7.out)).trans r7.out)
  replace xV := hid (xV.out.later N.out)
  replace xU := hid (xU.out.later N.out)
  clear N
  cases T with
  | true =>
    go_wp2_with fail
    go_ret
    exact ⟨rfl, D.out⟩
  | false =>
  have a4_0 := box_at (j := 0) r4.out rfl
  have a4_1 := box_at (j := 1) r4.out rfl
  have a4_2 := box_at (j := 2) r4.out rfl
  have a4_3 := box_at (j := 3) r4.out rfl
  have a4_4 := box_at (j := 4) r4.out rfl
  have a7_0 := box_at (j := 0) r7.out rfl
  have a7_1 := box_at (j := 1) r7.out rfl
  have a7_2 := box_at (j := 2) r7.out rfl
  have a7_3 := box_at (j := 3) r7.out rfl
  have a7_4 := box_at (j := 4) r7.out rfl
  go_wp2_with fail
  refine (hst.out _ _ _ D.out xV.out xU.out).mono ?_
  rintro e w4 ⟨cs_, rfl, N0, xx_⟩
  clear a4_0 a4_1 a4_2 a4_3 a4_4 a7_0 a7_1 a7_2 a7_3 a7_4
  obtain ⟨xk, xn, xt, xl, xfn, xfv⟩ := SV
  obtain ⟨ya, yc, za, zc, rfl, _⟩ := xx_.inv
  replace xx_ := hid xx_.now_free
  have N := hid N0
  clear N0
  replace D := hid (D.out.step N.out)
  replace r4 := hid ((N.out.block _ (lt_of_block r4.out)).trans r4.out)
  replace r7 := hid ((N.out.block _ (lt_of_block r7.out)).trans r7.out)
  replace xV := hid (xV.out.later N.out)
  replace xU := hid (xU.out.later N.out)
  have xx := xx_
  clear xx_
  clear N
  go_upto_region 6 with fail
  obtain ⟨w5, hw_⟩ : ∃ x, x = w4.alloc (.cells #[.int .i64 xk, .int .i64 xn, .string xt, .slice ya xl.length yc, .slice za xfv.length zc] 25) := ⟨_, rfl⟩
  have N : Hid (Below w4.heap.size w4 w5) := by show Below _ _ _; rw [hw_]; exact below_new _ _
  have r9_ : Hid (w5.heap[w4.heap.size]? = some (.cells #[.int .i64 xk, .int .i64 xn, .string xt, .slice ya xl.length yc, .slice za xfv.length zc] 25 (0, 0))) := by show _ = _; rw [hw_]; exact heap_alloc_new _ _
  rw [← hw_]
  clear hw_
  replace D := hid (D.out.step N.out)
  replace r4 := hid ((N.out.block _ (lt_of_block r4.out)).trans r4.out)
  replace r7 := hid ((N.out.block _ (lt_of_block r7.out)).trans r7.out)
  replace xV := hid (xV.out.later N.out)
  replace xU := hid (xU.out.later N.out)
  replace xx := hid (xx.out.later N.out)
  clear N
  have r9 := r9_
  clear r9_
  by_cases hSE : SE = 0
  · subst hSE
    have hBt := hok.out rfl
    subst hBt
    go_wp2_with fail
    refine (hsp.out _ D.out).mono ?_
    rintro e w6 hs_
    obtain ⟨N0, vl, rfl, ys_⟩ := hspa.out _ _ _ hs_
    obtain ⟨sa, sc, rfl, hb1, hb2, _⟩ := id ys_
    have hla : Hid (aa.length ≤ 9223372036854775807) := Nat.le_trans hb1 hb2
    clear hs_ hb1 hb2
    have hE : errS true = 0 := rfl
    rw [hE]
    clear hE
    have N := hid N0
    clear N0
    replace D := hid (D.out.step N.out)
    replace r4 := hid ((N.out.block _ (lt_of_block r4.out)).trans r4.out)
    replace r7 := hid ((N.out.block _ (lt_of_block r7.out)).trans r7.out)
    replace r9 := hid ((N.out.block _ (lt_of_block r9.out)).trans r9.out)
    replace xV := hid (xV.out.later N.out)
    replace xU := hid (xU.out.later N.out)
    replace xx := hid (xx.out.later N.out)
    have xs := hid ys_
    clear ys_
    clear N
    go_wp2_with fail
    refine (hsq.out _ D.out).mono ?_
    rintro e w7 hs_
    obtain ⟨N0, vl, rfl, ys_⟩ := hsqa.out _ _ _ hs_
    obtain ⟨ta, tc, rfl, _⟩ := id ys_
    clear hs_
    have N := hid N0
    clear N0
    replace D := hid (D.out.step N.out)
    replace r4 := hid ((N.out.block _ (lt_of_block r4.out)).trans r4.out)
    replace r7 := hid ((N.out.block _ (lt_of_block r7.out)).trans r7.out)
    replace r9 := hid ((N.out.block _ (lt_of_block r9.out)).trans r9.out)
    replace xV := hid (xV.out.later N.out)
    replace xU := hid (xU.out.later N.out)
    replace xx := hid (xx.out.later N.out)
    replace xs := hid (xs.out.later N.out)
    have xt := hid ys_
    clear ys_
    clear N
    cases BQ with
    | false =>
      have hE : errS false = 14 := rfl
      rw [hE]
      clear hE
      go_wp2_with fail
      go_ret
      exact ⟨rfl, D.out⟩
    | true =>
    have hE : errS true = 0 := rfl
    rw [hE]
    clear hE
    go_wp2_with fail
    go_loopg [14, 15] aa.length (fun g p i wr => ∃ (j : Nat) (ap : Bool), g + j = aa.length ∧ p = .bool ap ∧ i = .int .i64 j ∧ Hid (DiffB ap aa bb) ∧ Below w7.heap.size w7 wr)
    case atStart => exact ⟨0, false, by omega, rfl, rfl, fun h => (by cases h), Below.refl _ _⟩
    case round =>
      obtain ⟨j, ap, hg, rfl, rfl, hd, hb⟩ := hrel
      have N := hid hb
      replace D := hid (D.out.step N.out)
      replace r4 := hid ((N.out.block _ (lt_of_block r4.out)).trans r4.out)
      replace r7 := hid ((N.out.block _ (lt_of_block r7.out)).trans r7.out)
      replace r9 := hid ((N.out.block _ (lt_of_block r9.out)).trans r9.out)
      replace xV := hid (xV.out.later N.out)
      replace xU := hid (xU.out.later N.out)
      replace xx := hid (xx.out.later N.out)
      replace xs := hid (xs.out.later N.out)
      replace xt := hid (xt.out.later N.out)
      clear N
      by_cases hgo : j < aa.length ∧ j < bb.length
      · obtain ⟨hla1, hlb1⟩ := hgo
        have e1 : IntKind.i64.wrap ((j : Int) + 1) = (j : Int) + 1 := by rw [IntWalk.i64_in _ (by have := hla.out; omega)]
        cases ap with
        | true =>
          go_wp2_with fail
          go_quiet (fail)
          go_wp2_with fail
          go_roundg (aa.length - (j + 1))
          case measure => omega
          case rel => exact ⟨j + 1, _, by omega, rfl, by go_num, hd, below_drewN hb _⟩
        | false =>
          obtain ⟨y, hy⟩ : ∃ s, aa[j]? = some s := ⟨_, List.getElem?_eq_getElem hla1⟩
          obtain ⟨z, hz⟩ : ∃ s, bb[j]? = some s := ⟨_, List.getElem?_eq_getElem hlb1⟩
          obtain ⟨b1, o1, rfl, c1⟩ := xs.out.at_ hy
          obtain ⟨b2, o2, rfl, c2⟩ := xt.out.at_ hz
          replace hy := hid hy
          replace hz := hid hz
          by_cases hyz : y = z
          · subst hyz
            go_wp2_with fail
            go_quiet (fail)
            go_wp2_with fail
            go_roundg (aa.length - (j + 1))
            case measure => omega
            case rel => exact ⟨j + 1, _, by omega, rfl, by go_num, hd, below_drewN hb _⟩
          · go_wp2_with fail
            go_quiet (fail)
            go_wp2_with fail
            go_roundg (aa.length - (j + 1))
            case measure => omega
            case rel => exact ⟨j + 1, _, by omega, rfl, by go_num, fun _ => ⟨j, y, z, hy.out, hz.out, hyz⟩, below_drewN hb _⟩
      · cases ap with
        | false =>
          by_cases hla1 : j < aa.length
          · have hlb1 : ¬ j < bb.length := fun h => hgo ⟨hla1, h⟩
            clear hgo
            go_wp2_with fail
            go_ret
            exact ⟨rfl, D.out⟩
          · clear hgo
            go_wp2_with fail
            go_ret
            exact ⟨rfl, D.out⟩
        | true =>
          by_cases hla1 : j < aa.length
          · have hlb1 : ¬ j < bb.length := fun h => hgo ⟨hla1, h⟩
            clear hgo
            have hGG := hap.out (by simp) (by simp) (by simp) (hd.out rfl)
            subst hGG
            clear hap hd
            have a4_0 := box_at (j := 0) r4.out rfl
            have a4_1 := box_at (j := 1) r4.out rfl
            have a4_2 := box_at (j := 2) r4.out rfl
            have a4_3 := box_at (j := 3) r4.out rfl
            have a4_4 := box_at (j := 4) r4.out rfl
            go_wp2_with fail
            refine (hgv.out _ _ D.out xV.out).mono ?_
            rintro e w8 ⟨cs_, rfl, N0, xy_⟩
            clear a4_0 a4_1 a4_2 a4_3 a4_4
            obtain ⟨Y0, hY0⟩ : ∃ Y, Y = GS.getD zeroP := ⟨_, rfl⟩
            rw [← hY0] at hgs xy_
            clear hY0
            obtain ⟨pk, pn, pt, pl, pfn, pfv⟩ := Y0
            obtain ⟨ka, kc, kf, kg, rfl, _⟩ := xy_.inv
            replace xy_ := hid xy_.now_free
            have N := hid N0
            clear N0
            replace D := hid (D.out.step N.out)
            replace r4 := hid ((N.out.block _ (lt_of_block r4.out)).trans r4.out)
            replace r7 := hid ((N.out.block _ (lt_of_block r7.out)).trans r7.out)
            replace r9 := hid ((N.out.block _ (lt_of_block r9.out)).trans r9.out)
            replace xV := hid (xV.out.later N.out)
            replace xU := hid (xU.out.later N.out)
            replace xx := hid (xx.out.later N.out)
            replace xs := hid (xs.out.later N.out)
            replace xt := hid (xt.out.later N.out)
            have xy := xy_
            clear xy_
            clear N
            go_upto_region 20 with fail
            obtain ⟨w9, hw_⟩ : ∃ x, x = w8.alloc (.cells #[.int .i64 pk, .int .i64 pn, .string pt, .slice ka pl.length kc, .slice kf pfv.length kg] 25) := ⟨_, rfl⟩
            have N : Hid (Below w8.heap.size w8 w9) := by show Below _ _ _; rw [hw_]; exact below_new _ _
            have r16_ : Hid (w9.heap[w8.heap.size]? = some (.cells #[.int .i64 pk, .int .i64 pn, .string pt, .slice ka pl.length kc, .slice kf pfv.length kg] 25 (0, 0))) := by show _ = _; rw [hw_]; exact heap_alloc_new _ _
            rw [← hw_]
            clear hw_
            replace D := hid (D.out.step N.out)
            replace r4 := hid ((N.out.block _ (lt_of_block r4.out)).trans r4.out)
            replace r7 := hid ((N.out.block _ (lt_of_block r7.out)).trans r7.out)
            replace r9 := hid ((N.out.block _ (lt_of_block r9.out)).trans r9.out)
            replace xV := hid (xV.out.later N.out)
            replace xU := hid (xU.out.later N.out)
            replace xx := hid (xx.out.later N.out)
            replace xs := hid (xs.out.later N.out)
            replace xt := hid (xt.out.later N.out)
            replace xy := hid (xy.out.later N.out)
            clear N
            have r16 := r16_
            clear r16_
            have a9_0 := box_at (j := 0) r9.out rfl
            have a9_1 := box_at (j := 1) r9.out rfl
            have a9_2 := box_at (j := 2) r9.out rfl
            have a9_3 := box_at (j := 3) r9.out rfl
            have a9_4 := box_at (j := 4) r9.out rfl
            go_wp2_with fail
            refine (hgs.out _ _ D.out xx.out).mono ?_
            rintro e w10 ⟨cs_, rfl, N0, xz_⟩
            clear a9_0 a9_1 a9_2 a9_3 a9_4
            obtain ⟨ja, jc, jf, jg, rfl, _⟩ := xz_.inv
            replace xz_ := hid xz_.now_free
            have N := hid N0
            clear N0
            replace D := hid (D.out.step N.out)
            replace r4 := hid ((N.out.block _ (lt_of_block r4.out)).trans r4.out)
            replace r7 := hid ((N.out.block _ (lt_of_block r7.out)).trans r7.out)
            replace r9 := hid ((N.out.block _ (lt_of_block r9.out)).trans r9.out)
            replace r16 := hid ((N.out.block _ (lt_of_block r16.out)).trans r16.out)
            replace xV := hid (xV.out.later N.out)
            replace xU := hid (xU.out.later N.out)
            replace xx := hid (xx.out.later N.out)
            replace xs := hid (xs.out.later N.out)
            replace xt := hid (xt.out.later N.out)
            replace xy := hid (xy.out.later N.out)
            have xz := xz_
            clear xz_
            clear N
            go_upto_region 21 with fail
            obtain ⟨w11, hw_⟩ : ∃ x, x = w10.alloc (.cells #[.int .i64 pk, .int .i64 pn, .string pt, .slice ja pl.length jc, .slice jf pfv.length jg] 25) := ⟨_, rfl⟩
            have N : Hid (Below w10.heap.size w10 w11) := by show Below _ _ _; rw [hw_]; exact below_new _ _
            have r18_ : Hid (w11.heap[w10.heap.size]? = some (.cells #[.int .i64 pk, .int .i64 pn, .string pt, .slice ja pl.length jc, .slice jf pfv.length jg] 25 (0, 0))) := by show _ = _; rw [hw_]; exact heap_alloc_new _ _
            rw [← hw_]
            clear hw_
            replace D := hid (D.out.step N.out)
            replace r4 := hid ((N.out.block _ (lt_of_block r4.out)).trans r4.out)
            replace r7 := hid ((N.out.block _ (lt_of_block r7.out)).trans r7.out)
            replace r9 := hid ((N.out.block _ (lt_of_block r9.out)).trans r9.out)
            replace r16 := hid ((N.out.block _ (lt_of_block r16.out)).trans r16.out)
            replace xV := hid (xV.out.later N.out)
            replace xU := hid (xU.out.later N.out)
            replace xx := hid (xx.out.later N.out)
            replace xs := hid (xs.out.later N.out)
            replace xt := hid (xt.out.later N.out)
            replace xy := hid (xy.out.later N.out)
            replace xz := hid (xz.out.later N.out)
            clear N
            have r18 := r18_
            clear r18_
            have a16_0 := box_at (j := 0) r16.out rfl
            have a16_1 := box_at (j := 1) r16.out rfl
            have a16_2 := box_at (j := 2) r16.out rfl
            have a16_3 := box_at (j := 3) r16.out rfl
            have a16_4 := box_at (j := 4) r16.out rfl
            have a18_0 := box_at (j := 0) r18.out rfl
            have a18_1 := box_at (j := 1) r18.out rfl
            have a18_2 := box_at (j := 2) r18.out rfl
            have a18_3 := box_at (j := 3) r18.out rfl
            have a18_4 := box_at (j := 4) r18.out rfl
            go_wp2_with fail
            refine (hsm.out _ _ _ _ xy.out xz.out).mono ?_
            rintro e w12 ⟨rfl, N0⟩
            clear a16_0 a16_1 a16_2 a16_3 a16_4 a18_0 a18_1 a18_2 a18_3 a18_4
            have N := hid N0
            clear N0
            replace D := hid (D.out.step N.out)
            replace r4 := hid ((N.out.block _ (lt_of_block r4.out)).trans r4.out)
            replace r7 := hid ((N.out.block _ (lt_of_block r7.out)).trans r7.out)
            replace r9 := hid ((N.out.block _ (lt_of_block r9.out)).trans r9.out)
            replace r16 := hid ((N.out.block _ (lt_of_block r16.out)).trans r16.out)
            replace r18 := hid ((N.out.block _ (lt_of_block r18.out)).trans r18.out)
            replace xV := hid (xV.out.later N.out)
            replace xU := hid (xU.out.later N.out)
            replace xx := hid (xx.out.later N.out)
            replace xs := hid (xs.out.later N.out)
            replace xt := hid (xt.out.later N.out)
            replace xy := hid (xy.out.later N.out)
            replace xz := hid (xz.out.later N.out)
            clear N
            go_wp2_with fail
            go_ret
            exact ⟨rfl, D.out⟩
          · clear hgo
            have hGG := hap.out (by simp) (by simp) (by simp) (hd.out rfl)
            subst hGG
            clear hap hd
            have a4_0 := box_at (j := 0) r4.out rfl
            have a4_1 := box_at (j := 1) r4.out rfl
            have a4_2 := box_at (j := 2) r4.out rfl
            have a4_3 := box_at (j := 3) r4.out rfl
            have a4_4 := box_at (j := 4) r4.out rfl
            go_wp2_with fail
            refine (hgv.out _ _ D.out xV.out).mono ?_
            rintro e w8 ⟨cs_, rfl, N0, xy_⟩
            clear a4_0 a4_1 a4_2 a4_3 a4_4
            obtain ⟨Y0, hY0⟩ : ∃ Y, Y = GS.getD zeroP := ⟨_, rfl⟩
            rw [← hY0] at hgs xy_
            clear hY0
            obtain ⟨pk, pn, pt, pl, pfn, pfv⟩ := Y0
            obtain ⟨ka, kc, kf, kg, rfl, _⟩ := xy_.inv
            replace xy_ := hid xy_.now_free
            have N := hid N0
            clear N0
            replace D := hid (D.out.step N.out)
            replace r4 := hid ((N.out.block _ (lt_of_block r4.out)).trans r4.out)
            replace r7 := hid ((N.out.block _ (lt_of_block r7.out)).trans r7.out)
            replace r9 := hid ((N.out.block _ (lt_of_block r9.out)).trans r9.out)
            replace xV := hid (xV.out.later N.out)
            replace xU := hid (xU.out.later N.out)
            replace xx := hid (xx.out.later N.out)
            replace xs := hid (xs.out.later N.out)
            replace xt := hid (xt.out.later N.out)
            have xy := xy_
            clear xy_
            clear N
            go_upto_region 20 with fail
            obtain ⟨w9, hw_⟩ : ∃ x, x = w8.alloc (.cells #[.int .i64 pk, .int .i64 pn, .string pt, .slice ka pl.length kc, .slice kf pfv.length kg] 25) := ⟨_, rfl⟩
            have N : Hid (Below w8.heap.size w8 w9) := by show Below _ _ _; rw [hw_]; exact below_new _ _
            have r16_ : Hid (w9.heap[w8.heap.size]? = some (.cells #[.int .i64 pk, .int .i64 pn, .string pt, .slice ka pl.length kc, .slice kf pfv.length kg] 25 (0, 0))) := by show _ = _; rw [hw_]; exact heap_alloc_new _ _
            rw [← hw_]
            clear hw_
            replace D := hid (D.out.step N.out)
            replace r4 := hid ((N.out.block _ (lt_of_block r4.out)).trans r4.out)
            replace r7 := hid ((N.out.block _ (lt_of_block r7.out)).trans r7.out)
            replace r9 := hid ((N.out.block _ (lt_of_block r9.out)).trans r9.out)
            replace xV := hid (xV.out.later N.out)
            replace xU := hid (xU.out.later N.out)
            replace xx := hid (xx.out.later N.out)
            replace xs := hid (xs.out.later N.out)
            replace xt := hid (xt.out.later N.out)
            replace xy := hid (xy.out.later N.out)
            clear N
            have r16 := r16_
            clear r16_
            have a9_0 := box_at (j := 0) r9.out rfl
            have a9_1 := box_at (j := 1) r9.out rfl
            have a9_2 := box_at (j := 2) r9.out rfl
            have a9_3 := box_at (j := 3) r9.out rfl
            have a9_4 := box_at (j := 4) r9.out rfl
            go_wp2_with fail
            refine (hgs.out _ _ D.out xx.out).mono ?_
            rintro e w10 ⟨cs_, rfl, N0, xz_⟩
            clear a9_0 a9_1 a9_2 a9_3 a9_4
            obtain ⟨ja, jc, jf, jg, rfl, _⟩ := xz_.inv
            replace xz_ := hid xz_.now_free
            have N := hid N0
            clear N0
            replace D := hid (D.out.step N.out)
            replace r4 := hid ((N.out.block _ (lt_of_block r4.out)).trans r4.out)
            replace r7 := hid ((N.out.block _ (lt_of_block r7.out)).trans r7.out)
            replace r9 := hid ((N.out.block _ (lt_of_block r9.out)).trans r9.out)
            replace r16 := hid ((N.out.block _ (lt_of_block r16.out)).trans r16.out)
            replace xV := hid (xV.out.later N.out)
            replace xU := hid (xU.out.later N.out)
            replace xx := hid (xx.out.later N.out)
            replace xs := hid (xs.out.later N.out)
            replace xt := hid (xt.out.later N.out)
            replace xy := hid (xy.out.later N.out)
            have xz := xz_
            clear xz_
            clear N
            go_upto_region 21 with fail
            obtain ⟨w11, hw_⟩ : ∃ x, x = w10.alloc (.cells #[.int .i64 pk, .int .i64 pn, .string pt, .slice ja pl.length jc, .slice jf pfv.length jg] 25) := ⟨_, rfl⟩
            have N : Hid (Below w10.heap.size w10 w11) := by show Below _ _ _; rw [hw_]; exact below_new _ _
            have r18_ : Hid (w11.heap[w10.heap.size]? = some (.cells #[.int .i64 pk, .int .i64 pn, .string pt, .slice ja pl.length jc, .slice jf pfv.length jg] 25 (0, 0))) := by show _ = _; rw [hw_]; exact heap_alloc_new _ _
            rw [← hw_]
            clear hw_
            replace D := hid (D.out.step N.out)
            replace r4 := hid ((N.out.block _ (lt_of_block r4.out)).trans r4.out)
            replace r7 := hid ((N.out.block _ (lt_of_block r7.out)).trans r7.out)
            replace r9 := hid ((N.out.block _ (lt_of_block r9.out)).trans r9.out)
            replace r16 := hid ((N.out.block _ (lt_of_block r16.out)).trans r16.out)
            replace xV := hid (xV.out.later N.out)
            replace xU := hid (xU.out.later N.out)
            replace xx := hid (xx.out.later N.out)
            replace xs := hid (xs.out.later N.out)
            replace xt := hid (xt.out.later N.out)
            replace xy := hid (xy.out.later N.out)
            replace xz := hid (xz.out.later N.out)
            clear N
            have r18 := r18_
            clear r18_
            have a16_0 := box_at (j := 0) r16.out rfl
            have a16_1 := box_at (j := 1) r16.out rfl
            have a16_2 := box_at (j := 2) r16.out rfl
            have a16_3 := box_at (j := 3) r16.out rfl
            have a16_4 := box_at (j := 4) r16.out rfl
            have a18_0 := box_at (j := 0) r18.out rfl
            have a18_1 := box_at (j := 1) r18.out rfl
            have a18_2 := box_at (j := 2) r18.out rfl
            have a18_3 := box_at (j := 3) r18.out rfl
            have a18_4 := box_at (j := 4) r18.out rfl
            go_wp2_with fail
            refine (hsm.out _ _ _ _ xy.out xz.out).mono ?_
            rintro e w12 ⟨rfl, N0⟩
            clear a16_0 a16_1 a16_2 a16_3 a16_4 a18_0 a18_1 a18_2 a18_3 a18_4
            have N := hid N0
            clear N0
            replace D := hid (D.out.step N.out)
            replace r4 := hid ((N.out.block _ (lt_of_block r4.out)).trans r4.out)
            replace r7 := hid ((N.out.block _ (lt_of_block r7.out)).trans r7.out)
            replace r9 := hid ((N.out.block _ (lt_of_block r9.out)).trans r9.out)
            replace r16 := hid ((N.out.block _ (lt_of_block r16.out)).trans r16.out)
            replace r18 := hid ((N.out.block _ (lt_of_block r18.out)).trans r18.out)
            replace xV := hid (xV.out.later N.out)
            replace xU := hid (xU.out.later N.out)
            replace xx := hid (xx.out.later N.out)
            replace xs := hid (xs.out.later N.out)
            replace xt := hid (xt.out.later N.out)
            replace xy := hid (xy.out.later N.out)
            replace xz := hid (xz.out.later N.out)
            clear N
            go_wp2_with fail
            go_ret
            exact ⟨rfl, D.out⟩
  · have hb0 := hbad.out hSE
    injection hb0 with i1 i2 i3 i4 i5 i6
    subst i1 i2 i3 i4 i5 i6
    have a9_0 := box_at (j := 0) r9.out rfl
    have a9_1 := box_at (j := 1) r9.out rfl
    have a9_2 := box_at (j := 2) r9.out rfl
    have a9_3 := box_at (j := 3) r9.out rfl
    have a9_4 := box_at (j := 4) r9.out rfl
    go_wp2_with fail
    refine (hze.out _ _ xx.out).mono ?_
    rintro e w6 ⟨rfl, N0⟩
    clear a9_0 a9_1 a9_2 a9_3 a9_4
    have N := hid N0
    clear N0
    replace D := hid (D.out.step N.out)
    replace r4 := hid ((N.out.block _ (lt_of_block r4.out)).trans r4.out)
    replace r7 := hid ((N.out.block _ (lt_of_block r7.out)).trans r7.out)
    replace r9 := hid ((N.out.block _ (lt_of_block r9.out)).trans r9.out)
    replace xV := hid (xV.out.later N.out)
    replace xU := hid (xU.out.later N.out)
    replace xx := hid (xx.out.later N.out)
    clear N
    go_wp2_with fail
    go_ret
    exact ⟨rfl, D.out⟩
end Go.Proofs.YthjihdpleclejaaDoor
