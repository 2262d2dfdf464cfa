/-
  Walk: the law PathGets. No condition.
-/
import Derived.Test.YthjihdpleclejaaDoorMgPth23
import Derived.Test.YthjihdpleclejaaDoorMgPth8
import Derived.Test.YthjihdpleclejaaDoorMgVal19
namespace Go.Proofs.YthjihdpleclejaaDoor
open Go.RowKit Go.Proofs

set_option maxRecDepth 100000 in
theorem zero6_calls (V : PVal) (R : Bool) (hR : R = true ↔ V = zeroP) (w : World) (cs : List Value) (hV : Rd w (Now w) V cs) :
    Calls Tryd.prog 15 #[.agg cs.toArray] w fun e w' => e = .returned (.bool R) ∧ Below w.heap.size w w' := by
  have hs := hid (fun w cs cs' => same_calls V zeroP R hR w cs cs')
  have hV0 := hid hV
  clear hR
  obtain ⟨k, n, s, l, fn, fv⟩ := V
  obtain ⟨la, lc, fa, fc, rfl, _⟩ := hV.inv
  clear hV
  have hB0 := hid (below_new w (.cells #[.int .i64 k, .int .i64 n, .string s, .slice la l.length lc, .slice fa fv.length fc] 25))
  go_enter Tryd.func15, Tryd.ntmps15
  go_wp2_with fail
  refine (hs.out _ _ _ (hV0.out.later hB0.out) rd_zeroP).mono ?_
  rintro e w1 ⟨rfl, h1⟩
  go_wp2_with fail
  go_ret
  exact ⟨rfl, hB0.out.step h1⟩

/-- The error of Steps. -/
def errS (B : Bool) : Int := if B = true then 0 else 14
theorem steps_any {R : Option (List ByteArray)} {w w' : World} {e : Ending} (h : Stepped R w e w') : Below w.heap.size w w' ∧ ∃ v, e = .returned (.tuple #[v, .int .i64 (errS R.isSome)]) ∧ StrsAt w' (Now w') (R.getD []) v := by
  obtain ⟨h1, h2⟩ := h
  refine ⟨h1, ?_⟩
  cases R with
  | none => exact ⟨_, h2, none, 0, rfl, Nat.le_refl _, by decide, .inl rfl⟩
  | some l =>
    obtain ⟨v, h3, h4⟩ := h2
    exact ⟨v, h3, h4.keep (fun _ hb => hb.2) (fun _ _ => rfl)⟩
theorem rsteps_any (p : ByteArray) (w : World) (hp : p.size ≤ 70368744177664) : Calls Tryd.prog 13 #[.string p] w fun e w' => Below w.heap.size w w' ∧ ∃ v, e = .returned (.tuple #[v, .bool (stepsP p).isSome]) ∧ StrsAt w' (Now w') ((stepsP p).getD []) v := by
  refine (rsteps_calls p w hp).mono ?_
  rintro e w' ⟨h1, h2⟩
  refine ⟨h1, ?_⟩
  revert h2
  cases stepsP p with
  | none => exact fun h2 => ⟨_, h2, none, 0, rfl, Nat.le_refl _, by decide, .inl rfl⟩
  | some l =>
    rintro ⟨v, h3, h4⟩
    exact ⟨v, h3, h4.keep (fun _ hb => hb.2) (fun _ _ => rfl)⟩
theorem StrsAt.at_ {w : World} {S : Nat → Prop} {l : List ByteArray} {a : Option Addr} {n c : Nat} (h : StrsAt w S l (.slice a n c)) {j : Nat} {s : ByteArray} (hj : l[j]? = some s) : ∃ b off, a = some ⟨b, off, none⟩ ∧ w.cell? ⟨b, off + j, none⟩ = some (.string s) := by
  obtain ⟨a', c', e1, _, _, h4⟩ := h
  injection e1 with e1
  subst e1
  rcases h4 with h4 | ⟨b, off, h5, _, h6⟩
  · rw [h4] at hj; simp at hj
  · exact ⟨b, off, h5, h6 j s hj⟩

set_option maxRecDepth 100000 in
set_option maxHeartbeats 4000000 in
theorem gets_calls (V : PVal) (hm : V.mass ≤ 1073741824) (pa : ByteArray) (hpa : pa.size < 4294967281) {w : World} {cs : List Value} (hT : Tabs w) (hM : Mx w) (hV : Rd w (Now w) V cs) :
    Calls Tryd.prog 3 #[.agg cs.toArray, .string pa] w fun e w' => e = .returned (.bool true) ∧ Below w.heap.size w w' := by
  have hva := hid (fun la c' w h => vast_calls [V] la c' w h (by simp))
  have hst := hid (fun (w' : World) (h : Below w.heap.size w w') => steps_calls pa w' hpa (hM.stays h))
  have hgt := hid (fun (w' : World) cs (h : Below w.heap.size w w') hx => get_calls copy_deep pa hpa V (by omega) (w := w') (cs := cs) (Tabs.stays w w' hT h) (hM.stays h) hx)
  have haw := hid (fun (w' : World) (h : Below w.heap.size w w') => awake6_calls w' (Tabs.stays w w' hT h) (hM.stays h))
  have hrs := hid (fun w => rsteps_any pa w (by omega))
  have hgd := hid (fun w cs h => rgood_mass V hm w cs h)
  have hrg := hid (fun (w' : World) cs (hx : Rd w' (Now w') V cs) => rGet_calls pa (by omega) V hx)
  have hsm := hid (fun (V : PVal) w cs cs' h h' => same6_calls V V true (by simp) w cs cs' h h')
  have hze := hid (fun w cs h => zero6_calls zeroP true (by simp) w cs h)
  have hz : V.good ≠ 0 → gotP V pa = none := fun h => by unfold gotP; rw [if_pos h]
  have hy : V.good = 0 → gotP V pa = (stepsP pa).bind (getP V) := fun h => by unfold gotP; rw [if_neg (by simp [h])]
  unfold Got6 at hgt
  unfold Stepd at hrg
  obtain ⟨GT, hGT⟩ : ∃ GT, GT = gotP V pa := ⟨_, rfl⟩
  rw [← hGT] at hgt hz hy
  obtain ⟨RG, hRG⟩ : ∃ RG, RG = (stepsP pa).bind (getP V) := ⟨_, rfl⟩
  rw [← hRG] at hrg hy
  obtain ⟨G, hG⟩ : ∃ G, G = V.good := ⟨_, rfl⟩
  rw [← hG] at hgd hz hy
  obtain ⟨Q, hQ⟩ : ∃ Q, Q = stepsP pa := ⟨_, rfl⟩
  rw [← hQ] at hst hrs
  obtain ⟨ll, hll⟩ : ∃ ll, ll = Q.getD [] := ⟨_, rfl⟩
  obtain ⟨B, hB⟩ : ∃ B, B = Q.isSome := ⟨_, rfl⟩
  rw [← hll, ← hB] at hrs
  obtain ⟨X0, hX0⟩ : ∃ X0, X0 = GT.getD zeroP := ⟨_, rfl⟩
  obtain ⟨IS, hIS⟩ : ∃ IS, IS = GT.isSome := ⟨_, rfl⟩
  rw [← hX0, ← hIS] at hgt
  have hsp : Hid (∀ w' e w2, Stepped Q w' e w2 → Below w'.heap.size w' w2 ∧ ∃ v, e = .returned (.tuple #[v, .int .i64 (errS B)]) ∧ StrsAt w2 (Now w2) ll v) := fun w' e w2 h => by
    have := steps_any h
    rw [← hll, ← hB] at this
    exact this
  replace hz : Hid (G ≠ 0 → X0 = zeroP ∧ IS = false) := fun h => by rw [hX0, hIS, hz h]; exact ⟨rfl, rfl⟩
  replace hy : Hid (G = 0 → RG.getD zeroP = X0 ∧ RG.isSome = IS) := fun h => by rw [hX0, hIS, hy h]; exact ⟨rfl, rfl⟩
  obtain ⟨Y0, hY0⟩ : ∃ Y0, Y0 = RG.getD zeroP := ⟨_, rfl⟩
  obtain ⟨IY, hIY⟩ : ∃ IY, IY = RG.isSome := ⟨_, rfl⟩
  rw [← hY0, ← hIY] at hy hrg
  clear hGT hRG hG hQ hll hB hX0 hIS hY0 hIY hT hM hm
  have xV := hid hV
  have hVm := hid hV
  generalize vast [V] = T at *
  obtain ⟨k, n, str, l, fn, fv⟩ := V
  obtain ⟨la, lc, fa, fc, rfl, _⟩ := hV.inv
  clear hV
  go_enter Tryd.func3, Tryd.ntmps3
  have D := hid (Below.refl w.heap.size w)
  go_upto_region 1 with fail
  obtain ⟨w1, hw_⟩ : ∃ x, x = w.alloc (.cells #[.int .i64 k, .int .i64 n, .string str, .slice la l.length lc, .slice fa fv.length fc] 25) := ⟨_, rfl⟩
  have N : Hid (Below w.heap.size w w1) := by show Below _ _ _; rw [hw_]; exact below_new _ _
  have r2_ : Hid (w1.heap[w.heap.size]? = some (.cells #[.int .i64 k, .int .i64 n, .string str, .slice la l.length lc, .slice fa fv.length fc] 25 (0, 0))) := by show _ = _; rw [hw_]; exact heap_alloc_new _ _
  rw [← hw_]
  clear hw_
  replace D := hid (D.out.step N.out)
  replace xV := hid (xV.out.later N.out)
  clear N
  have r2 := r2_
  clear r2_
  have a2_0 := box_at (j := 0) r2.out rfl
  have a2_1 := box_at (j := 1) r2.out rfl
  have a2_2 := box_at (j := 2) r2.out rfl
  have a2_3 := box_at (j := 3) r2.out rfl
  have a2_4 := box_at (j := 4) r2.out rfl
  go_wp2_with fail
  refine (hva.out (some ⟨w1.heap.size, 0, none⟩) 1 _ (rdL_sole (x := .mk k n str l fn fv) (xs := [.int .i64 k, .int .i64 n, .string str, .slice la l.length lc, .slice fa fv.length fc]) (al_at rfl) (xV.out.later (below_new _ _)))).mono ?_
  rintro e w2 ⟨rfl, N0⟩
  clear a2_0 a2_1 a2_2 a2_3 a2_4
  replace N0 := (below_new w1 (.cells #[.int .i64 k, .int .i64 n, .string str, .slice la l.length lc, .slice fa fv.length fc] 25)).step N0
  have N := hid N0
  clear N0
  replace D := hid (D.out.step N.out)
  replace r2 := hid ((N.out.block _ (lt_of_block r2.out)).trans r2.out)
  replace xV := hid (xV.out.later N.out)
  clear N
  cases T with
  | true =>
    go_wp2_with fail
    go_ret
    exact ⟨rfl, D.out⟩
  | false =>
  go_wp2_with fail
  refine (hst.out _ D.out).mono ?_
  rintro e w3 hs_
  obtain ⟨N0, vl, rfl, ys_⟩ := hsp.out _ _ _ hs_
  obtain ⟨sa, sc, rfl, hb1, hb2, _⟩ := id ys_
  have hlb : Hid (ll.length ≤ 9223372036854775807) := Nat.le_trans hb1 hb2
  clear hs_ hb1 hb2
  have N := hid N0
  clear N0
  replace D := hid (D.out.step N.out)
  replace r2 := hid ((N.out.block _ (lt_of_block r2.out)).trans r2.out)
  replace xV := hid (xV.out.later N.out)
  have xs := hid ys_
  clear ys_
  clear N
  have a2_0 := box_at (j := 0) r2.out rfl
  have a2_1 := box_at (j := 1) r2.out rfl
  have a2_2 := box_at (j := 2) r2.out rfl
  have a2_3 := box_at (j := 3) r2.out rfl
  have a2_4 := box_at (j := 4) r2.out rfl
  go_wp2_with fail
  refine (hgt.out _ _ D.out xV.out).mono ?_
  rintro e w4 ⟨cs_, rfl, N0, xx_⟩
  clear a2_0 a2_1 a2_2 a2_3 a2_4
  obtain ⟨xk, xn, xt, xl, xfn, xfv⟩ := X0
  obtain ⟨ya, yc, za, zc, rfl, _⟩ := xx_.inv
  replace xx_ := hid xx_.now_free
  have N := hid N0
  clear N0
  replace D := hid (D.out.step N.out)
  replace r2 := hid ((N.out.block _ (lt_of_block r2.out)).trans r2.out)
  replace xV := hid (xV.out.later N.out)
  replace xs := hid (xs.out.later N.out)
  have xx := xx_
  clear xx_
  clear N
  go_upto_region 5 with fail
  obtain ⟨w5, hw_⟩ : ∃ x, x = w4.alloc (.cells #[.int .i64 xk, .int .i64 xn, .string xt, .slice ya xl.length yc, .slice za xfv.length zc] 25) := ⟨_, rfl⟩
  have N : Hid (Below w4.heap.size w4 w5) := by show Below _ _ _; rw [hw_]; exact below_new _ _
  have r7_ : Hid (w5.heap[w4.heap.size]? = some (.cells #[.int .i64 xk, .int .i64 xn, .string xt, .slice ya xl.length yc, .slice za xfv.length zc] 25 (0, 0))) := by show _ = _; rw [hw_]; exact heap_alloc_new _ _
  rw [← hw_]
  clear hw_
  replace D := hid (D.out.step N.out)
  replace r2 := hid ((N.out.block _ (lt_of_block r2.out)).trans r2.out)
  replace xV := hid (xV.out.later N.out)
  replace xs := hid (xs.out.later N.out)
  replace xx := hid (xx.out.later N.out)
  clear N
  have r7 := r7_
  clear r7_
  go_wp2_with fail
  refine (haw.out _ D.out).mono ?_
  rintro e w6 ⟨rfl, N0⟩
  have N := hid N0
  clear N0
  replace D := hid (D.out.step N.out)
  replace r2 := hid ((N.out.block _ (lt_of_block r2.out)).trans r2.out)
  replace r7 := hid ((N.out.block _ (lt_of_block r7.out)).trans r7.out)
  replace xV := hid (xV.out.later N.out)
  replace xs := hid (xs.out.later N.out)
  replace xx := hid (xx.out.later N.out)
  clear N
  go_wp2_with fail
  refine (hrs.out _).mono ?_
  rintro e w7 ⟨N0, vr, rfl, yr_⟩
  obtain ⟨ra, rc, rfl, _⟩ := id yr_
  have N := hid N0
  clear N0
  replace D := hid (D.out.step N.out)
  replace r2 := hid ((N.out.block _ (lt_of_block r2.out)).trans r2.out)
  replace r7 := hid ((N.out.block _ (lt_of_block r7.out)).trans r7.out)
  replace xV := hid (xV.out.later N.out)
  replace xs := hid (xs.out.later N.out)
  replace xx := hid (xx.out.later N.out)
  have xr := hid yr_
  clear yr_
  clear N
  cases B with
  | true =>
    have hE : errS true = 0 := rfl
    rw [hE]
    clear hE
    go_wp2_with fail
    go_loopg [11] ll.length (fun g i wr => ∃ j : Nat, g + j = ll.length ∧ i = .int .i64 j ∧ Below w7.heap.size w7 wr)
    case atStart => exact ⟨0, by omega, rfl, Below.refl _ _⟩
    case round =>
      obtain ⟨j, hg, rfl, hb⟩ := hrel
      have N := hid hb
      replace D := hid (D.out.step N.out)
      replace r2 := hid ((N.out.block _ (lt_of_block r2.out)).trans r2.out)
      replace r7 := hid ((N.out.block _ (lt_of_block r7.out)).trans r7.out)
      replace xV := hid (xV.out.later N.out)
      replace xs := hid (xs.out.later N.out)
      replace xx := hid (xx.out.later N.out)
      replace xr := hid (xr.out.later N.out)
      by_cases hlt : j < ll.length
      · obtain ⟨s, hs⟩ : ∃ s, ll[j]? = some s := ⟨_, List.getElem?_eq_getElem hlt⟩
        obtain ⟨b1, o1, rfl, c1⟩ := xs.out.at_ hs
        obtain ⟨b2, o2, rfl, c2⟩ := xr.out.at_ hs
        have e1 : IntKind.i64.wrap ((j : Int) + 1) = (j : Int) + 1 := by rw [IntWalk.i64_in _ (by have := hlb.out; omega)]
        clear hs
        go_wp2_with fail
        go_quiet (fail)
        go_wp2_with fail
        go_roundg (ll.length - (j + 1))
        case measure => omega
        case rel => exact ⟨j + 1, by omega, by go_num, below_drewN hb _⟩
      · clear hg N
        have a2_0 := box_at (j := 0) r2.out rfl
        have a2_1 := box_at (j := 1) r2.out rfl
        have a2_2 := box_at (j := 2) r2.out rfl
        have a2_3 := box_at (j := 3) r2.out rfl
        have a2_4 := box_at (j := 4) r2.out rfl
        go_wp2_with fail
        refine (hgd.out _ _ xV.out).mono ?_
        rintro e w8 ⟨rfl, N0⟩
        clear a2_0 a2_1 a2_2 a2_3 a2_4
        have N := hid N0
        clear N0
        replace D := hid (D.out.step N.out)
        replace r2 := hid ((N.out.block _ (lt_of_block r2.out)).trans r2.out)
        replace r7 := hid ((N.out.block _ (lt_of_block r7.out)).trans r7.out)
        replace xV := hid (xV.out.later N.out)
        replace xs := hid (xs.out.later N.out)
        replace xx := hid (xx.out.later N.out)
        replace xr := hid (xr.out.later N.out)
        clear N
        by_cases hG0 : G = 0
        · obtain ⟨hY, hI⟩ := hy.out hG0
          subst hG0 hY hI
          have a2_0 := box_at (j := 0) r2.out rfl
          have a2_1 := box_at (j := 1) r2.out rfl
          have a2_2 := box_at (j := 2) r2.out rfl
          have a2_3 := box_at (j := 3) r2.out rfl
          have a2_4 := box_at (j := 4) r2.out rfl
          go_wp2_with fail
          refine (hrg.out _ _ xV.out).mono ?_
          rintro e w9 ⟨cs_, rfl, N0, xy_⟩
          clear a2_0 a2_1 a2_2 a2_3 a2_4
          obtain ⟨ka, kc, kf, kg, rfl, _⟩ := xy_.inv
          have N := hid N0
          clear N0
          replace D := hid (D.out.step N.out)
          replace r2 := hid ((N.out.block _ (lt_of_block r2.out)).trans r2.out)
          replace r7 := hid ((N.out.block _ (lt_of_block r7.out)).trans r7.out)
          replace xV := hid (xV.out.later N.out)
          replace xs := hid (xs.out.later N.out)
          replace xx := hid (xx.out.later N.out)
          replace xr := hid (xr.out.later N.out)
          have xy := hid (xy_.keep (S' := Now _) (fun b hb => Nat.lt_of_lt_of_le hb N.out.size) (fun _ _ => rfl))
          clear xy_
          clear N
          go_upto_region 18 with fail
          obtain ⟨w10, hw_⟩ : ∃ x, x = w9.alloc (.cells #[.int .i64 xk, .int .i64 xn, .string xt, .slice ka xl.length kc, .slice kf xfv.length kg] 25) := ⟨_, rfl⟩
          have N : Hid (Below w9.heap.size w9 w10) := by show Below _ _ _; rw [hw_]; exact below_new _ _
          have r12_ : Hid (w10.heap[w9.heap.size]? = some (.cells #[.int .i64 xk, .int .i64 xn, .string xt, .slice ka xl.length kc, .slice kf xfv.length kg] 25 (0, 0))) := by show _ = _; rw [hw_]; exact heap_alloc_new _ _
          rw [← hw_]
          clear hw_
          replace D := hid (D.out.step N.out)
          replace r2 := hid ((N.out.block _ (lt_of_block r2.out)).trans r2.out)
          replace r7 := hid ((N.out.block _ (lt_of_block r7.out)).trans r7.out)
          replace xV := hid (xV.out.later N.out)
          replace xs := hid (xs.out.later N.out)
          replace xx := hid (xx.out.later N.out)
          replace xr := hid (xr.out.later N.out)
          replace xy := hid (xy.out.later N.out)
          clear N
          have r12 := r12_
          clear r12_
          have a7_0 := box_at (j := 0) r7.out rfl
          have a7_1 := box_at (j := 1) r7.out rfl
          have a7_2 := box_at (j := 2) r7.out rfl
          have a7_3 := box_at (j := 3) r7.out rfl
          have a7_4 := box_at (j := 4) r7.out rfl
          have a12_0 := box_at (j := 0) r12.out rfl
          have a12_1 := box_at (j := 1) r12.out rfl
          have a12_2 := box_at (j := 2) r12.out rfl
          have a12_3 := box_at (j := 3) r12.out rfl
          have a12_4 := box_at (j := 4) r12.out rfl
          go_wp2_with fail
          refine (hsm.out _ _ _ _ xx.out xy.out).mono ?_
          rintro e w11 ⟨rfl, N0⟩
          clear a7_0 a7_1 a7_2 a7_3 a7_4 a12_0 a12_1 a12_2 a12_3 a12_4
          have N := hid N0
          clear N0
          replace D := hid (D.out.step N.out)
          replace r2 := hid ((N.out.block _ (lt_of_block r2.out)).trans r2.out)
          replace r7 := hid ((N.out.block _ (lt_of_block r7.out)).trans r7.out)
          replace r12 := hid ((N.out.block _ (lt_of_block r12.out)).trans r12.out)
          replace xV := hid (xV.out.later N.out)
          replace xs := hid (xs.out.later N.out)
          replace xx := hid (xx.out.later N.out)
          replace xr := hid (xr.out.later N.out)
          replace xy := hid (xy.out.later N.out)
          clear N
          go_wp2_with fail
          go_ret
          exact ⟨rfl, D.out⟩
        · obtain ⟨hY, hI⟩ := hz.out hG0
          subst hI
          injection hY with i1 i2 i3 i4 i5 i6
          subst i1 i2 i3 i4 i5 i6
          have hGd : decide (G = 0) = false := by simp [hG0]
          have a7_0 := box_at (j := 0) r7.out rfl
          have a7_1 := box_at (j := 1) r7.out rfl
          have a7_2 := box_at (j := 2) r7.out rfl
          have a7_3 := box_at (j := 3) r7.out rfl
          have a7_4 := box_at (j := 4) r7.out rfl
          go_wp2_with fail
          refine (hze.out _ _ xx.out).mono ?_
          rintro e w9 ⟨rfl, N0⟩
          clear a7_0 a7_1 a7_2 a7_3 a7_4
          have N := hid N0
          clear N0
          replace D := hid (D.out.step N.out)
          replace r2 := hid ((N.out.block _ (lt_of_block r2.out)).trans r2.out)
          replace r7 := hid ((N.out.block _ (lt_of_block r7.out)).trans r7.out)
          replace xV := hid (xV.out.later N.out)
          replace xs := hid (xs.out.later N.out)
          replace xx := hid (xx.out.later N.out)
          replace xr := hid (xr.out.later N.out)
          clear N
          go_wp2_with fail
          go_ret
          exact ⟨rfl, D.out⟩
  | false =>
    have hE : errS false = 14 := rfl
    rw [hE]
    clear hE
    go_wp2_with fail
    go_loopg [11] ll.length (fun g i wr => ∃ j : Nat, g + j = ll.length ∧ i = .int .i64 j ∧ Below w7.heap.size w7 wr)
    case atStart => exact ⟨0, by omega, rfl, Below.refl _ _⟩
    case round =>
      obtain ⟨j, hg, rfl, hb⟩ := hrel
      have N := hid hb
      replace D := hid (D.out.step N.out)
      replace r2 := hid ((N.out.block _ (lt_of_block r2.out)).trans r2.out)
      replace r7 := hid ((N.out.block _ (lt_of_block r7.out)).trans r7.out)
      replace xV := hid (xV.out.later N.out)
      replace xs := hid (xs.out.later N.out)
      replace xx := hid (xx.out.later N.out)
      replace xr := hid (xr.out.later N.out)
      by_cases hlt : j < ll.length
      · obtain ⟨s, hs⟩ : ∃ s, ll[j]? = some s := ⟨_, List.getElem?_eq_getElem hlt⟩
        obtain ⟨b1, o1, rfl, c1⟩ := xs.out.at_ hs
        obtain ⟨b2, o2, rfl, c2⟩ := xr.out.at_ hs
        have e1 : IntKind.i64.wrap ((j : Int) + 1) = (j : Int) + 1 := by rw [IntWalk.i64_in _ (by have := hlb.out; omega)]
        clear hs
        go_wp2_with fail
        go_quiet (fail)
        go_wp2_with fail
        go_roundg (ll.length - (j + 1))
        case measure => omega
        case rel => exact ⟨j + 1, by omega, by go_num, below_drewN hb _⟩
      · clear hg N
        have a2_0 := box_at (j := 0) r2.out rfl
        have a2_1 := box_at (j := 1) r2.out rfl
        have a2_2 := box_at (j := 2) r2.out rfl
        have a2_3 := box_at (j := 3) r2.out rfl
        have a2_4 := box_at (j := 4) r2.out rfl
        go_wp2_with fail
        refine (hgd.out _ _ xV.out).mono ?_
        rintro e w8 ⟨rfl, N0⟩
        clear a2_0 a2_1 a2_2 a2_3 a2_4
        have N := hid N0
        clear N0
        replace D := hid (D.out.step N.out)
        replace r2 := hid ((N.out.block _ (lt_of_block r2.out)).trans r2.out)
        replace r7 := hid ((N.out.block _ (lt_of_block r7.out)).trans r7.out)
        replace xV := hid (xV.out.later N.out)
        replace xs := hid (xs.out.later N.out)
        replace xx := hid (xx.out.later N.out)
        replace xr := hid (xr.out.later N.out)
        clear N
        by_cases hG0 : G = 0
        · obtain ⟨hY, hI⟩ := hy.out hG0
          subst hG0 hY hI
          have a2_0 := box_at (j := 0) r2.out rfl
          have a2_1 := box_at (j := 1) r2.out rfl
          have a2_2 := box_at (j := 2) r2.out rfl
          have a2_3 := box_at (j := 3) r2.out rfl
          have a2_4 := box_at (j := 4) r2.out rfl
          go_wp2_with fail
          refine (hrg.out _ _ xV.out).mono ?_
          rintro e w9 ⟨cs_, rfl, N0, xy_⟩
          clear a2_0 a2_1 a2_2 a2_3 a2_4
          obtain ⟨ka, kc, kf, kg, rfl, _⟩ := xy_.inv
          have N := hid N0
          clear N0
          replace D := hid (D.out.step N.out)
          replace r2 := hid ((N.out.block _ (lt_of_block r2.out)).trans r2.out)
          replace r7 := hid ((N.out.block _ (lt_of_block r7.out)).trans r7.out)
          replace xV := hid (xV.out.later N.out)
          replace xs := hid (xs.out.later N.out)
          replace xx := hid (xx.out.later N.out)
          replace xr := hid (xr.out.later N.out)
          have xy := hid (xy_.keep (S' := Now _) (fun b hb => Nat.lt_of_lt_of_le hb N.out.size) (fun _ _ => rfl))
          clear xy_
          clear N
          go_upto_region 18 with fail
          obtain ⟨w10, hw_⟩ : ∃ x, x = w9.alloc (.cells #[.int .i64 xk, .int .i64 xn, .string xt, .slice ka xl.length kc, .slice kf xfv.length kg] 25) := ⟨_, rfl⟩
          have N : Hid (Below w9.heap.size w9 w10) := by show Below _ _ _; rw [hw_]; exact below_new _ _
          have r12_ : Hid (w10.heap[w9.heap.size]? = some (.cells #[.int .i64 xk, .int .i64 xn, .string xt, .slice ka xl.length kc, .slice kf xfv.length kg] 25 (0, 0))) := by show _ = _; rw [hw_]; exact heap_alloc_new _ _
          rw [← hw_]
          clear hw_
          replace D := hid (D.out.step N.out)
          replace r2 := hid ((N.out.block _ (lt_of_block r2.out)).trans r2.out)
          replace r7 := hid ((N.out.block _ (lt_of_block r7.out)).trans r7.out)
          replace xV := hid (xV.out.later N.out)
          replace xs := hid (xs.out.later N.out)
          replace xx := hid (xx.out.later N.out)
          replace xr := hid (xr.out.later N.out)
          replace xy := hid (xy.out.later N.out)
          clear N
          have r12 := r12_
          clear r12_
          have a7_0 := box_at (j := 0) r7.out rfl
          have a7_1 := box_at (j := 1) r7.out rfl
          have a7_2 := box_at (j := 2) r7.out rfl
          have a7_3 := box_at (j := 3) r7.out rfl
          have a7_4 := box_at (j := 4) r7.out rfl
          have a12_0 := box_at (j := 0) r12.out rfl
          have a12_1 := box_at (j := 1) r12.out rfl
          have a12_2 := box_at (j := 2) r12.out rfl
          have a12_3 := box_at (j := 3) r12.out rfl
          have a12_4 := box_at (j := 4) r12.out rfl
          go_wp2_with fail
          refine (hsm.out _ _ _ _ xx.out xy.out).mono ?_
          rintro e w11 ⟨rfl, N0⟩
          clear a7_0 a7_1 a7_2 a7_3 a7_4 a12_0 a12_1 a12_2 a12_3 a12_4
          have N := hid N0
          clear N0
          replace D := hid (D.out.step N.out)
          replace r2 := hid ((N.out.block _ (lt_of_block r2.out)).trans r2.out)
          replace r7 := hid ((N.out.block _ (lt_of_block r7.out)).trans r7.out)
          replace r12 := hid ((N.out.block _ (lt_of_block r12.out)).trans r12.out)
          replace xV := hid (xV.out.later N.out)
          replace xs := hid (xs.out.later N.out)
          replace xx := hid (xx.out.later N.out)
          replace xr := hid (xr.out.later N.out)
          replace xy := hid (xy.out.later N.out)
          clear N
          go_wp2_with fail
          go_ret
          exact ⟨rfl, D.out⟩
        · obtain ⟨hY, hI⟩ := hz.out hG0
          subst hI
          injection hY with i1 i2 i3 i4 i5 i6
          subst i1 i2 i3 i4 i5 i6
          have hGd : decide (G = 0) = false := by simp [hG0]
          have a7_0 := box_at (j := 0) r7.out rfl
          have a7_1 := box_at (j := 1) r7.out rfl
          have a7_2 := box_at (j := 2) r7.out rfl
          have a7_3 := box_at (j := 3) r7.out rfl
          have a7_4 := box_at (j := 4) r7.out rfl
          go_wp2_with fail
          refine (hze.out _ _ xx.out).mono ?_
          rintro e w9 ⟨rfl, N0⟩
          clear a7_0 a7_1 a7_2 a7_3 a7_4
          have N := hid N0
          clear N0
          replace D := hid (D.out.step N.out)
          replace r2 := hid ((N.out.block _ (lt_of_block r2.out)).trans r2.out)
          replace r7 := hid ((N.out.block _ (lt_of_block r7.out)).trans r7.out)
          replace xV := hid (xV.out.later N.out)
          replace xs := hid (xs.out.later N.out)
          replace xx := hid (xx.out.later N.out)
          replace xr := hid (xr.out.later N.out)
          clear N
          go_wp2_with fail
          go_ret
          exact ⟨rfl, D.out⟩
end Go.Proofs.YthjihdpleclejaaDoor
