/-
  Walk: a value with a change at the end of a path.
-/
import Derived.Test.YthjihdpleclejaaGreatDoorMgPth19
import Derived.Test.YthjihdpleclejaaGreatDoorMgPthP
namespace Go.Proofs.YthjihdpleclejaaGreatDoor
open Go.RowKit Go.Proofs
def Done6 (q : PVal × Int) (w : World) (e : Ending) (w' : World) : Prop := ∃ cs, e = .returned (.tuple #[.agg cs.toArray, .int .i64 q.2]) ∧ Below w.heap.size w w' ∧ Rd w' (Free w.heap.size w') q.1 cs
theorem find_take {l : List PVal} {p : PVal → Bool} {j : Nat} {x : PVal} (hx : l[j]? = some x) (h : ∀ y ∈ l.take j, p y = false) (hp : p x = true) : l.find? p = some x := by
 induction l generalizing j with
 | nil => simp at hx
 | cons a r ih =>
  cases j with
  | zero =>
   obtain rfl : a = x := by simpa using hx
   rw [List.find?_cons, hp]
  | succ j =>
   have ha : p a = false := h a (by simp)
   rw [List.find?_cons, ha]
   exact ih (by simpa using hx) (fun y hy => h y (by rw [List.take_succ_cons]; exact List.mem_cons_of_mem _ hy))
set_option maxRecDepth 100000 in
set_option maxHeartbeats 8000000 in
theorem done_calls {kf : FuncId} {caps : Array Value} {tf : PVal → Chg} {lays : Bool} {T : Nat} (hgo : ∀ (args : Array Value) (w : World), (callFunc kf args).run Tryz.prog w = .ok (.enter kf args) w) (pa : ByteArray) (hpa : pa.size < 4294967281) (V : PVal) (also : List PVal) (hm : V.mass ≤ 1073741824) (hT : T ≤ 4294967296) (hT2 : 32 ≤ T) (htm : ∀ y, y.mass ≤ 1073741824 → (tf y).v.mass ≤ T) (ham : ∀ x ∈ also, x.mass ≤ 1073741824)
  {w : World} {cs : List Value} {aa : Option Addr} {ac : Nat} (hto : Turns (Now w) w kf caps tf) (hTb : Tabs w) (hM : Mx w) (hV : Rd w (Now w) V cs) (hA : RdL w (Now w) also (.slice aa also.length ac)) :
  Calls Tryz.prog 23 #[.agg #[.func (.func kf) #[] caps, .bool lays], .agg cs.toArray, .string pa, .slice aa also.length ac] w (Done6 (doneP tf lays V pa also) w) := by
 have hst := hid (fun (w' : World) (h : Below w.heap.size w w') => steps_calls pa w' hpa (hM.stays h))
 have hgd := hid (fun (w' : World) (h : Below w.heap.size w w') => good_mass V (by omega) w' cs (Tabs.stays w w' hTb h) (hV.later h))
 have hgx := hid (fun (x : PVal) (hx : x.mass ≤ 1000000000000) (w' : World) (cs : List Value) (h : Below w.heap.size w w') (hr : Rd w' (Now w') x cs) => good_mass x hx w' cs (Tabs.stays w w' hTb h) hr)
 have hat := hid (fun l (hl : stepsP pa = some l) => at_calls (S := Now w) (W := w) (lays := lays) (fun c h => h) hgo hto l (fun x hx => by have := name_size ((stepsP_is hl).2.2.1 x hx); omega))
 have hV0 := hid hV
 have hA0 := hid hA
 have ham0 := hid ham
 have hal : also.length ≤ 1759218604441 := by obtain ⟨_, _, _, _, _, h, _⟩ := hA; exact h.2
 have hso := hid (fun (h : V.good = 0) => (⟨hV.fits, ((good_iff V).1 h).1⟩ : Sound V))
 unfold Stepped at hst
 unfold Done6
 obtain ⟨R, hR⟩ : ∃ R, R = doneP tf lays V pa also := ⟨_, rfl⟩
 rw [← hR]
 unfold doneP askP at hR
 obtain ⟨AE, hAE⟩ : ∃ AE : Int, AE = (also.find? (fun x => x.good != 0)).elim 0 PVal.good := ⟨_, rfl⟩
 rw [← hAE] at hR
 obtain ⟨GV, hG⟩ : ∃ GV, GV = V.good := ⟨_, rfl⟩
 rw [← hG] at hgd hso hR
 obtain ⟨Q, hQ⟩ : ∃ Q, Q = stepsP pa := ⟨_, rfl⟩
 rw [← hQ] at hst hat hR
 obtain ⟨V0, hV00⟩ : ∃ V0, V0 = V := ⟨_, rfl⟩
 have hqm := hid (fun l (hl : Q = some l) => atP_mass (lays := lays) (by decide : 32 ≤ 1073741824) hT2 htm l V hm (fun x hx => by have := name_size ((stepsP_is (hQ.symm.trans hl)).2.2.1 x hx); omega))
 have hl8 := hid (fun l (hl : Q = some l) => (stepsP_is (hQ.symm.trans hl)).2.1)
 have hm0 := hid hm
 rw [← hV00] at hR hV0 hqm hso hm0
 replace hR := hid hR
 replace hAE := hid hAE
 clear hG hQ hgo hto htm hTb hM hA ham hpa hT2
 obtain ⟨k, n, str, l, fn, fv⟩ := V
 obtain ⟨la, lc, fa, fc, rfl, _⟩ := hV.inv
 clear hV hm hV00
 obtain ⟨W0, hW0⟩ : ∃ W0, W0 = ((w.alloc (.cells #[.func (.func kf) #[] caps, .bool lays] 50)).alloc (.cells #[.int .i64 k, .int .i64 n, .string str, .slice la l.length lc, .slice fa fv.length fc] 25)).alloc (.cells #[.int .i64 0, .int .i64 0, .string ⟨#[]⟩, .slice none 0 0, .slice none 0 0] 25) := ⟨_, rfl⟩
 have D : Hid (Below w.heap.size w W0) := by show Below _ _ _; rw [hW0]; exact ((below_new _ _).step (below_new _ _)).step (below_new _ _)
 have r0 : Hid (W0.heap[w.heap.size]? = some (.cells #[.func (.func kf) #[] caps, .bool lays] 50 (0, 0))) := by show _ = _; rw [hW0]; exact al_old (al_old (al_at rfl))
 have r1 : Hid (W0.heap[w.heap.size + 1]? = some (.cells #[.int .i64 k, .int .i64 n, .string str, .slice la l.length lc, .slice fa fv.length fc] 25 (0, 0))) := by show _ = _; rw [hW0]; exact al_old (al_at (by simp))
 have r2 : Hid (W0.heap[w.heap.size + 2]? = some (.cells #[.int .i64 0, .int .i64 0, .string ⟨#[]⟩, .slice none 0 0, .slice none 0 0] 25 (0, 0))) := by show _ = _; rw [hW0]; exact al_at (by simp)
 have hW0s : Hid (W0.heap.size = w.heap.size + 3) := by show _ = _; rw [hW0]; simp
 go_enter Tryz.func23, Tryz.ntmps23
 go_upto_region 1 with fail
 rw [← hW0]
 clear hW0
 have b0 := box_at (j := 0) r1.out rfl
 have b1 := box_at (j := 1) r1.out rfl
 have b2 := box_at (j := 2) r1.out rfl
 have b3 := box_at (j := 3) r1.out rfl
 have b4 := box_at (j := 4) r1.out rfl
 go_wp2_with fail
 clear b0 b1 b2 b3 b4
 refine (hgd.out _ D.out).mono ?_
 rintro e w1 ⟨rfl, h1⟩
 have D1 := hid (D.out.step h1)
 have q0 := hid ((h1.block _ (lt_of_block r0.out)).trans r0.out)
 have q1 := hid ((h1.block _ (lt_of_block r1.out)).trans r1.out)
 have q2 := hid ((h1.block _ (lt_of_block r2.out)).trans r2.out)
 clear h1 hgd r0 r1 r2
 by_cases hG0 : GV = 0
 ·subst hG0
  replace hso := hid (hso.out rfl)
  have hR2 : Hid (R = if (if Q = none then 14 else AE) ≠ 0 then (zeroP, if Q = none then 14 else AE) else toldP (atP tf lays V0 (Q.getD []))) := hR.out
  clear hR
  go_wp2_with fail
  refine (hst.out _ D1.out).mono ?_
  rintro e w2 ⟨h2, hres⟩
  have D2 := hid (D1.out.step h2)
  have p0 := hid ((h2.block _ (lt_of_block q0.out)).trans q0.out)
  have p1 := hid ((h2.block _ (lt_of_block q1.out)).trans q1.out)
  have p2 := hid ((h2.block _ (lt_of_block q2.out)).trans q2.out)
  clear h2 q0 q1 q2 D1 hst
  cases Q with
  | none =>
   simp only at hres
   subst hres
   obtain rfl : R = (zeroP, 14) := by rw [hR2.out]; simp
   clear hR2 hat hqm hl8 hso
   have c0 := box_at (j := 0) p2.out rfl
   have c1 := box_at (j := 1) p2.out rfl
   have c2 := box_at (j := 2) p2.out rfl
   have c3 := box_at (j := 3) p2.out rfl
   have c4 := box_at (j := 4) p2.out rfl
   have f0 := box_free p2.out
   go_wp2_with fail
   clear c0 c1 c2 c3 c4
   clear f0
   have hbz := hid (set5_below D2.out (Nat.le_add_right w.heap.size 2) (.int .i64 0) (.int .i64 0) (.string ⟨#[]⟩) (.slice none 0 0) (.slice none 0 0))
   have rz := hid (set5_box (u0 := .int .i64 0) (u1 := .int .i64 0) (u2 := .string ⟨#[]⟩) (u3 := .slice none 0 0) (u4 := .slice none 0 0) p2.out)
   have hkp := hid (fun b (hb : b ≠ w.heap.size + 2) => set5_other w2 (w.heap.size + 2) (.int .i64 0) (.int .i64 0) (.string ⟨#[]⟩) (.slice none 0 0) (.slice none 0 0) (b := b) hb)
   have hsz9 := hid (set5_size w2 (w.heap.size + 2) (.int .i64 0) (.int .i64 0) (.string ⟨#[]⟩) (.slice none 0 0) (.slice none 0 0))
   unfold set5 at hbz rz hkp hsz9
   generalize ((((w2.setCell ⟨w.heap.size + 2, 0, none⟩ (.int .i64 0)).setCell ⟨w.heap.size + 2, 1, none⟩ (.int .i64 0)).setCell ⟨w.heap.size + 2, 2, none⟩ (.string ⟨#[]⟩)).setCell ⟨w.heap.size + 2, 3, none⟩ (.slice none 0 0)).setCell ⟨w.heap.size + 2, 4, none⟩ (.slice none 0 0) = w9 at *
   have z0 := box_at (j := 0) rz.out rfl
   have z1 := box_at (j := 1) rz.out rfl
   have z2 := box_at (j := 2) rz.out rfl
   have z3 := box_at (j := 3) rz.out rfl
   have z4 := box_at (j := 4) rz.out rfl
   refine ⟨rfl, _, by simp [results, Tryz.results23, go_sem, z0, z1, z2, z3, z4] <;> exact ⟨rfl, rfl⟩, [.int .i64 0, .int .i64 0, .string ⟨#[]⟩, .slice none 0 0, .slice none 0 0], rfl, hbz.out, ?_⟩
   exact rd_zeroP
  | some ss =>
   obtain ⟨sv, rfl, hss⟩ := hres
   have hR3 : Hid (R = if AE ≠ 0 then (zeroP, AE) else toldP (atP tf lays V0 ss)) := by show _ = _; rw [hR2.out]; simp
   replace hss := hid hss
   replace hat := hid (hat.out ss rfl)
   replace hqm := hid (hqm.out ss rfl)
   replace hl8 := hid (hl8.out ss rfl)
   clear hR2
   go_wp2_with fail
   go_loopg [35] also.length (fun gh i wr => ∃ j : Nat, gh + j = also.length ∧ i = .int .i64 j ∧ Hid (∀ x ∈ also.take j, x.good = 0) ∧ Hid (Below w2.heap.size w2 wr))
   case atStart => exact ⟨0, by omega, rfl, by intro x hx; simp at hx, Below.refl _ _⟩
   case round =>
    obtain ⟨j, hj, rfl, hall, hbr⟩ := hrel
    have D3 := hid (D2.out.step hbr.out)
    by_cases hlt : j < also.length
    ·obtain ⟨x, hx⟩ : ∃ x, also[j]? = some x := ⟨_, List.getElem?_eq_getElem hlt⟩
     obtain ⟨b, off, xs, rfl, hxS, hxc, hxr⟩ := (hA0.out.later D3.out).at_ hx
     have hxm := ham0.out x (List.mem_of_getElem? hx)
     have hcx := hid (fun w' cs h1 h2 => hgx.out x (by omega) w' cs h1 h2)
     have hall2 := hid (fun (h : x.good = 0) y (hy : y ∈ also.take (j + 1)) => (by
      rw [take_succ_of hx] at hy
      rcases List.mem_append.1 hy with hy | hy
      ·exact hall.out y hy
      ·obtain rfl : y = x := by simpa using hy
       exact h : y.good = 0))
     have hbad : Hid (x.good ≠ 0 → AE = x.good) := fun h => by
      rw [hAE.out, find_take hx (fun y hy => by simp [hall.out y hy]) (by simp [h])]; rfl
     obtain ⟨xg, hxg⟩ : ∃ xg, xg = x.good := ⟨_, rfl⟩
     rw [← hxg] at hcx hall2 hbad
     clear hxg hxm hx
     obtain ⟨xk, xn, xt, xl, xfn, xfv⟩ := x
     obtain ⟨xla, xlc, xfa, xfc, rfl, _⟩ := hxr.inv
     obtain ⟨c0, c1, c2, c3, c4⟩ := five hxc
     clear hxc
     replace hxr := hid hxr
     have hji : (j : Int) < (also.length : Int) := by omega
     go_wp2_with fail
     clear c0 c1 c2 c3 c4
     refine (hcx.out _ _ (D3.out.step (below_new _ _)) (hxr.out.later (below_new _ _))).mono ?_
     rintro e w3 ⟨rfl, h3⟩
     have N3 := hid ((below_new wr _).step h3)
     clear h3
     by_cases hx0 : xg = 0
     ·subst hx0
      have hall3 := hall2.out rfl
      replace hall3 := hid hall3
      clear hbad hall2 hcx
      go_wp2_with fail
      go_roundg (also.length - (j + 1))
      case measure => omega
      case rel => exact ⟨j + 1, by omega, by go_num, hall3, hbr.out.step N3.out⟩
     ·have hxi : (xg != 0) = true := by simp [hx0]
      obtain rfl : R = (zeroP, xg) := by rw [hR3.out, hbad.out hx0, if_pos hx0]
      have D4 := hid (D3.out.step N3.out)
      have n2 := hid (((hbr.out.step N3.out).block _ (lt_of_block p2.out)).trans p2.out)
      clear hR3 hbad hall2 hcx hx0
      have c0 := box_at (j := 0) n2.out rfl
      have c1 := box_at (j := 1) n2.out rfl
      have c2 := box_at (j := 2) n2.out rfl
      have c3 := box_at (j := 3) n2.out rfl
      have c4 := box_at (j := 4) n2.out rfl
      have f0 := box_free n2.out
      go_wp2_with fail
      clear c0 c1 c2 c3 c4
      clear f0
      have hbz := hid (set5_below D4.out (Nat.le_add_right w.heap.size 2) (.int .i64 0) (.int .i64 0) (.string ⟨#[]⟩) (.slice none 0 0) (.slice none 0 0))
      have rz := hid (set5_box (u0 := .int .i64 0) (u1 := .int .i64 0) (u2 := .string ⟨#[]⟩) (u3 := .slice none 0 0) (u4 := .slice none 0 0) n2.out)
      have hkp := hid (fun b (hb : b ≠ w.heap.size + 2) => set5_other w3 (w.heap.size + 2) (.int .i64 0) (.int .i64 0) (.string ⟨#[]⟩) (.slice none 0 0) (.slice none 0 0) (b := b) hb)
      have hsz9 := hid (set5_size w3 (w.heap.size + 2) (.int .i64 0) (.int .i64 0) (.string ⟨#[]⟩) (.slice none 0 0) (.slice none 0 0))
      unfold set5 at hbz rz hkp hsz9
      generalize ((((w3.setCell ⟨w.heap.size + 2, 0, none⟩ (.int .i64 0)).setCell ⟨w.heap.size + 2, 1, none⟩ (.int .i64 0)).setCell ⟨w.heap.size + 2, 2, none⟩ (.string ⟨#[]⟩)).setCell ⟨w.heap.size + 2, 3, none⟩ (.slice none 0 0)).setCell ⟨w.heap.size + 2, 4, none⟩ (.slice none 0 0) = w9 at *
      have z0 := box_at (j := 0) rz.out rfl
      have z1 := box_at (j := 1) rz.out rfl
      have z2 := box_at (j := 2) rz.out rfl
      have z3 := box_at (j := 3) rz.out rfl
      have z4 := box_at (j := 4) rz.out rfl
      refine ⟨rfl, _, by simp [results, Tryz.results23, go_sem, z0, z1, z2, z3, z4] <;> exact ⟨rfl, rfl⟩, [.int .i64 0, .int .i64 0, .string ⟨#[]⟩, .slice none 0 0, .slice none 0 0], rfl, hbz.out, ?_⟩
      exact rd_zeroP
    ·have hjl : also.take j = also := List.take_of_length_le (by omega)
     have hAE0 : AE = 0 := by
      rw [hAE.out, List.find?_eq_none.2 (fun x hx => by simp [hall.out x (by rw [hjl]; exact hx)])]; rfl
     have hR4 : Hid (R = toldP (atP tf lays V0 ss)) := by show _ = _; rw [hR3.out, if_neg (fun h => h hAE0)]
     obtain ⟨q, hq⟩ : ∃ q, q = atP tf lays V0 ss := ⟨_, rfl⟩
     unfold AtC Told at hat
     have hac := hid (fun w' sv hb hs => hat.out V0 w' _ true sv hb hso.out (by have := hm0.out; omega) (hV0.out.keep (fun _ h => h) (fun c hc => hb.block c hc)) hs)
     rw [← hq] at hac hqm hR4
     have n0 := hid ((hbr.out.block _ (lt_of_block p0.out)).trans p0.out)
     have n1 := hid ((hbr.out.block _ (lt_of_block p1.out)).trans p1.out)
     have n2 := hid ((hbr.out.block _ (lt_of_block p2.out)).trans p2.out)
     have hsk := hid (StrsAt.keep hss.out (fun c h => Nat.lt_of_lt_of_le h.2 hbr.out.size) (fun c h => hbr.out.block c h.2))
     clear hR3 hq hat hjl hAE hAE0 hall hbr hss p0 p1 p2
     have d0 := box_at (j := 0) n0.out rfl
     have d1 := box_at (j := 1) n0.out rfl
     have b0 := box_at (j := 0) n1.out rfl
     have b1 := box_at (j := 1) n1.out rfl
     have b2 := box_at (j := 2) n1.out rfl
     have b3 := box_at (j := 3) n1.out rfl
     have b4 := box_at (j := 4) n1.out rfl
     go_wp2_with fail
     clear d0 d1
     clear b0 b1 b2 b3 b4
     refine (hac.out _ _ D3.out hsk.out).mono ?_
     rintro e w4 ⟨cs4, rfl, h4, hr4⟩
     obtain ⟨qv, qg, qe⟩ := q
     have hqm2 : qv.mass ≤ 1000000000000 := by
      have h1 : qv.mass ≤ T + ss.length * (1073741824 + 200) := hqm.out
      have h2 : ss.length * (1073741824 + 200) ≤ 8 * (1073741824 + 200) := Nat.mul_le_mul_right _ hl8.out
      omega
     have hgq := hid (fun w' cs h1 h2 => hgx.out qv hqm2 w' cs h1 h2)
     have hcq := hid (fun w' cs h => copy_deep qv w' cs h)
     have hR5 : Hid (R = if qe ≠ 0 then (zeroP, qe) else if qv.good ≠ 0 then (zeroP, qv.good) else (qv, 0)) := hR4.out
     obtain ⟨GQ, hGQ⟩ : ∃ GQ, GQ = qv.good := ⟨_, rfl⟩
     rw [← hGQ] at hR5 hgq
     obtain ⟨QV, hQV⟩ : ∃ QV, QV = qv := ⟨_, rfl⟩
     rw [← hQV] at hR5 hcq hr4
     clear hR4 hqm hqm2 hGQ hac
     have D4 := hid (D3.out.step h4)
     have m2 := hid ((h4.block _ (lt_of_block n2.out)).trans n2.out)
     obtain ⟨zk, zn, zt, zl, zfn, zfv⟩ := qv
     subst hQV
     obtain ⟨pa', pc', pa2, pc2, rfl, _⟩ := hr4.inv
     have hrN := hid (show Rd w4 (Now w4) _ _ from hr4.keep (fun c h => h.elim (fun h => Nat.lt_of_lt_of_le h (Nat.le_trans D3.out.size h4.size)) (fun h => h.2)) (fun _ _ => rfl))
     clear hr4 h4 n0 n1 n2
     go_upto_region 15 with fail
     have N5 := hid (below_new w4 (.cells #[.int .i64 zk, .int .i64 zn, .string zt, .slice pa' zl.length pc', .slice pa2 zfv.length pc2] 25))
     have m5 := hid (heap_alloc_new w4 (.cells #[.int .i64 zk, .int .i64 zn, .string zt, .slice pa' zl.length pc', .slice pa2 zfv.length pc2] 25))
     have D5 := hid (D4.out.step N5.out)
     have o2 := hid ((N5.out.block _ (lt_of_block m2.out)).trans m2.out)
     have hr5 := hid (hrN.out.later N5.out)
     generalize w4.alloc (.cells #[.int .i64 zk, .int .i64 zn, .string zt, .slice pa' zl.length pc', .slice pa2 zfv.length pc2] 25) = w5 at *
     clear D4 m2 hrN N5
     have y0 := box_at (j := 0) m5.out rfl
     have y1 := box_at (j := 1) m5.out rfl
     have y2 := box_at (j := 2) m5.out rfl
     have y3 := box_at (j := 3) m5.out rfl
     have y4 := box_at (j := 4) m5.out rfl
     by_cases he : qe = 0
     ·subst he
      have hR6 : Hid (R = if GQ ≠ 0 then (zeroP, GQ) else (PVal.mk zk zn zt zl zfn zfv, 0)) := by show _ = _; rw [hR5.out, if_neg (by simp)]
      clear hR5
      go_wp2_with fail
      refine (hgq.out _ _ D5.out hr5.out).mono ?_
      rintro e w6 ⟨rfl, h6⟩
      have D6 := hid (D5.out.step h6)
      have i5 := hid ((h6.block _ (lt_of_block m5.out)).trans m5.out)
      have l2 := hid ((h6.block _ (lt_of_block o2.out)).trans o2.out)
      have hr6 := hid (hr5.out.later h6)
      clear y0 y1 y2 y3 y4
      clear h6 m5 o2 hr5 D5 hgq
      by_cases hg : GQ = 0
      ·subst hg
       obtain rfl : R = (PVal.mk zk zn zt zl zfn zfv, 0) := by rw [hR6.out, if_neg (by simp)]
       clear hR6
       have y0 := box_at (j := 0) i5.out rfl
       have y1 := box_at (j := 1) i5.out rfl
       have y2 := box_at (j := 2) i5.out rfl
       have y3 := box_at (j := 3) i5.out rfl
       have y4 := box_at (j := 4) i5.out rfl
       go_wp2_with fail
       clear y0 y1 y2 y3 y4
       refine (hcq.out _ _ hr6.out).mono ?_
       rintro e w7 ⟨cs7, rfl, hr7, h7⟩
       obtain ⟨qa, qc, pa, pc, rfl, _⟩ := hr7.inv
       replace hr7 := hid hr7
       have D7 := hid (D6.out.step h7)
       have e2 := hid ((h7.block _ (lt_of_block l2.out)).trans l2.out)
       have hb2 : Hid (w.heap.size + 2 < w6.heap.size) := lt_of_block l2.out
       clear h7
       have c0 := box_at (j := 0) e2.out rfl
       have c1 := box_at (j := 1) e2.out rfl
       have c2 := box_at (j := 2) e2.out rfl
       have c3 := box_at (j := 3) e2.out rfl
       have c4 := box_at (j := 4) e2.out rfl
       have f0 := box_free e2.out
       go_wp2_with fail
       clear c0 c1 c2 c3 c4
       clear f0
       have hbz := hid (set5_below D7.out (Nat.le_add_right w.heap.size 2) (.int .i64 zk) (.int .i64 zn) (.string zt) (.slice qa zl.length qc) (.slice pa zfv.length pc))
       have rz := hid (set5_box (u0 := .int .i64 zk) (u1 := .int .i64 zn) (u2 := .string zt) (u3 := .slice qa zl.length qc) (u4 := .slice pa zfv.length pc) e2.out)
       have hkp := hid (fun b (hb : b ≠ w.heap.size + 2) => set5_other w7 (w.heap.size + 2) (.int .i64 zk) (.int .i64 zn) (.string zt) (.slice qa zl.length qc) (.slice pa zfv.length pc) (b := b) hb)
       have hsz9 := hid (set5_size w7 (w.heap.size + 2) (.int .i64 zk) (.int .i64 zn) (.string zt) (.slice qa zl.length qc) (.slice pa zfv.length pc))
       unfold set5 at hbz rz hkp hsz9
       generalize ((((w7.setCell ⟨w.heap.size + 2, 0, none⟩ (.int .i64 zk)).setCell ⟨w.heap.size + 2, 1, none⟩ (.int .i64 zn)).setCell ⟨w.heap.size + 2, 2, none⟩ (.string zt)).setCell ⟨w.heap.size + 2, 3, none⟩ (.slice qa zl.length qc)).setCell ⟨w.heap.size + 2, 4, none⟩ (.slice pa zfv.length pc) = w9 at *
       have z0 := box_at (j := 0) rz.out rfl
       have z1 := box_at (j := 1) rz.out rfl
       have z2 := box_at (j := 2) rz.out rfl
       have z3 := box_at (j := 3) rz.out rfl
       have z4 := box_at (j := 4) rz.out rfl
       refine ⟨rfl, _, by simp [results, Tryz.results23, go_sem, z0, z1, z2, z3, z4] <;> exact ⟨rfl, rfl⟩, [.int .i64 zk, .int .i64 zn, .string zt, .slice qa zl.length qc, .slice pa zfv.length pc], rfl, hbz.out, ?_⟩
       exact hr7.out.keep (fun c h => ⟨⟨by have := h.1.1; have := hb2.out; omega, by rw [hsz9.out]; exact h.1.2⟩, Warm.keep (w := w7) h.2 (hkp.out c (by have := h.1.1; have := hb2.out; omega))⟩) (fun c h => hkp.out c (by have := h.1.1; have := hb2.out; omega))
      ·have hgi : (GQ != 0) = true := by simp [hg]
       obtain rfl : R = (zeroP, GQ) := by rw [hR6.out, if_pos hg]
       clear hR6 hg
       have c0 := box_at (j := 0) l2.out rfl
       have c1 := box_at (j := 1) l2.out rfl
       have c2 := box_at (j := 2) l2.out rfl
       have c3 := box_at (j := 3) l2.out rfl
       have c4 := box_at (j := 4) l2.out rfl
       have f0 := box_free l2.out
       go_wp2_with fail
       clear c0 c1 c2 c3 c4
       clear f0
       have hbz := hid (set5_below D6.out (Nat.le_add_right w.heap.size 2) (.int .i64 0) (.int .i64 0) (.string ⟨#[]⟩) (.slice none 0 0) (.slice none 0 0))
       have rz := hid (set5_box (u0 := .int .i64 0) (u1 := .int .i64 0) (u2 := .string ⟨#[]⟩) (u3 := .slice none 0 0) (u4 := .slice none 0 0) l2.out)
       have hkp := hid (fun b (hb : b ≠ w.heap.size + 2) => set5_other w6 (w.heap.size + 2) (.int .i64 0) (.int .i64 0) (.string ⟨#[]⟩) (.slice none 0 0) (.slice none 0 0) (b := b) hb)
       have hsz9 := hid (set5_size w6 (w.heap.size + 2) (.int .i64 0) (.int .i64 0) (.string ⟨#[]⟩) (.slice none 0 0) (.slice none 0 0))
       unfold set5 at hbz rz hkp hsz9
       generalize ((((w6.setCell ⟨w.heap.size + 2, 0, none⟩ (.int .i64 0)).setCell ⟨w.heap.size + 2, 1, none⟩ (.int .i64 0)).setCell ⟨w.heap.size + 2, 2, none⟩ (.string ⟨#[]⟩)).setCell ⟨w.heap.size + 2, 3, none⟩ (.slice none 0 0)).setCell ⟨w.heap.size + 2, 4, none⟩ (.slice none 0 0) = w9 at *
       have z0 := box_at (j := 0) rz.out rfl
       have z1 := box_at (j := 1) rz.out rfl
       have z2 := box_at (j := 2) rz.out rfl
       have z3 := box_at (j := 3) rz.out rfl
       have z4 := box_at (j := 4) rz.out rfl
       refine ⟨rfl, _, by simp [results, Tryz.results23, go_sem, z0, z1, z2, z3, z4] <;> exact ⟨rfl, rfl⟩, [.int .i64 0, .int .i64 0, .string ⟨#[]⟩, .slice none 0 0, .slice none 0 0], rfl, hbz.out, ?_⟩
       exact rd_zeroP
     ·have hei : (qe != 0) = true := by simp [he]
      have hei2 : (qe == 0) = false := beq_false_of_ne he
      obtain rfl : R = (zeroP, qe) := by rw [hR5.out, if_pos he]
      clear hR5 he
      clear y0 y1 y2 y3 y4
      have c0 := box_at (j := 0) o2.out rfl
      have c1 := box_at (j := 1) o2.out rfl
      have c2 := box_at (j := 2) o2.out rfl
      have c3 := box_at (j := 3) o2.out rfl
      have c4 := box_at (j := 4) o2.out rfl
      have f0 := box_free o2.out
      go_wp2_with fail
      clear c0 c1 c2 c3 c4
      clear f0
      have hbz := hid (set5_below D5.out (Nat.le_add_right w.heap.size 2) (.int .i64 0) (.int .i64 0) (.string ⟨#[]⟩) (.slice none 0 0) (.slice none 0 0))
      have rz := hid (set5_box (u0 := .int .i64 0) (u1 := .int .i64 0) (u2 := .string ⟨#[]⟩) (u3 := .slice none 0 0) (u4 := .slice none 0 0) o2.out)
      have hkp := hid (fun b (hb : b ≠ w.heap.size + 2) => set5_other w5 (w.heap.size + 2) (.int .i64 0) (.int .i64 0) (.string ⟨#[]⟩) (.slice none 0 0) (.slice none 0 0) (b := b) hb)
      have hsz9 := hid (set5_size w5 (w.heap.size + 2) (.int .i64 0) (.int .i64 0) (.string ⟨#[]⟩) (.slice none 0 0) (.slice none 0 0))
      unfold set5 at hbz rz hkp hsz9
      generalize ((((w5.setCell ⟨w.heap.size + 2, 0, none⟩ (.int .i64 0)).setCell ⟨w.heap.size + 2, 1, none⟩ (.int .i64 0)).setCell ⟨w.heap.size + 2, 2, none⟩ (.string ⟨#[]⟩)).setCell ⟨w.heap.size + 2, 3, none⟩ (.slice none 0 0)).setCell ⟨w.heap.size + 2, 4, none⟩ (.slice none 0 0) = w9 at *
      have z0 := box_at (j := 0) rz.out rfl
      have z1 := box_at (j := 1) rz.out rfl
      have z2 := box_at (j := 2) rz.out rfl
      have z3 := box_at (j := 3) rz.out rfl
      have z4 := box_at (j := 4) rz.out rfl
      refine ⟨rfl, _, by simp [results, Tryz.results23, go_sem, z0, z1, z2, z3, z4] <;> exact ⟨rfl, rfl⟩, [.int .i64 0, .int .i64 0, .string ⟨#[]⟩, .slice none 0 0, .slice none 0 0], rfl, hbz.out, ?_⟩
      exact rd_zeroP
 ·have hGi : (GV != 0) = true := by simp [hG0]
  obtain rfl : R = (zeroP, GV) := by rw [hR.out, if_pos hG0, if_pos hG0]
  clear hR hst hat hqm hl8 hso hG0
  have c0 := box_at (j := 0) q2.out rfl
  have c1 := box_at (j := 1) q2.out rfl
  have c2 := box_at (j := 2) q2.out rfl
  have c3 := box_at (j := 3) q2.out rfl
  have c4 := box_at (j := 4) q2.out rfl
  have f0 := box_free q2.out
  go_wp2_with fail
  clear c0 c1 c2 c3 c4
  clear f0
  have hbz := hid (set5_below D1.out (Nat.le_add_right w.heap.size 2) (.int .i64 0) (.int .i64 0) (.string ⟨#[]⟩) (.slice none 0 0) (.slice none 0 0))
  have rz := hid (set5_box (u0 := .int .i64 0) (u1 := .int .i64 0) (u2 := .string ⟨#[]⟩) (u3 := .slice none 0 0) (u4 := .slice none 0 0) q2.out)
  have hkp := hid (fun b (hb : b ≠ w.heap.size + 2) => set5_other w1 (w.heap.size + 2) (.int .i64 0) (.int .i64 0) (.string ⟨#[]⟩) (.slice none 0 0) (.slice none 0 0) (b := b) hb)
  have hsz9 := hid (set5_size w1 (w.heap.size + 2) (.int .i64 0) (.int .i64 0) (.string ⟨#[]⟩) (.slice none 0 0) (.slice none 0 0))
  unfold set5 at hbz rz hkp hsz9
  generalize ((((w1.setCell ⟨w.heap.size + 2, 0, none⟩ (.int .i64 0)).setCell ⟨w.heap.size + 2, 1, none⟩ (.int .i64 0)).setCell ⟨w.heap.size + 2, 2, none⟩ (.string ⟨#[]⟩)).setCell ⟨w.heap.size + 2, 3, none⟩ (.slice none 0 0)).setCell ⟨w.heap.size + 2, 4, none⟩ (.slice none 0 0) = w9 at *
  have z0 := box_at (j := 0) rz.out rfl
  have z1 := box_at (j := 1) rz.out rfl
  have z2 := box_at (j := 2) rz.out rfl
  have z3 := box_at (j := 3) rz.out rfl
  have z4 := box_at (j := 4) rz.out rfl
  refine ⟨rfl, _, by simp [results, Tryz.results23, go_sem, z0, z1, z2, z3, z4] <;> exact ⟨rfl, rfl⟩, [.int .i64 0, .int .i64 0, .string ⟨#[]⟩, .slice none 0 0, .slice none 0 0], rfl, hbz.out, ?_⟩
  exact rd_zeroP
end Go.Proofs.YthjihdpleclejaaGreatDoor
