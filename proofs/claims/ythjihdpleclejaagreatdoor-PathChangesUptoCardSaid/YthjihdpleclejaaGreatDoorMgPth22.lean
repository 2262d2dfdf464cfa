/-
  Walks: Unset, and its closure.
-/
import Derived.Test.YthjihdpleclejaaGreatDoorMgPth21
namespace Go.Proofs.YthjihdpleclejaaGreatDoor
open Go.RowKit Go.Proofs
set_option maxRecDepth 100000 in
set_option maxHeartbeats 4000000 in
theorem unset1_calls {S : Nat → Prop} {w : World} {y : PVal} {b : Bool} {cs : List Value} (hy : Rd w S y cs) :
  Calls Tryz.prog 31 #[.agg cs.toArray, .bool b] w (Told S (toGone y) w) := by
 unfold Told toGone
 obtain ⟨k, n, str, l, fn, fv⟩ := y
 obtain ⟨la, lc, fa, fc, rfl, _⟩ := hy.inv
 clear hy
 obtain ⟨W0, hW0⟩ : ∃ W0, W0 = (w.alloc (.cells #[.int .i64 k, .int .i64 n, .string str, .slice la l.length lc, .slice fa fv.length fc] 25)).alloc (.cells #[.int .i64 0, .int .i64 0, .string ⟨#[]⟩, .slice none 0 0, .slice none 0 0] 25) := ⟨_, rfl⟩
 have D : Hid (Below w.heap.size w W0) := by show Below _ _ _; rw [hW0]; exact (below_new _ _).step (below_new _ _)
 have r1 : Hid (W0.heap[w.heap.size + 1]? = some (.cells #[.int .i64 0, .int .i64 0, .string ⟨#[]⟩, .slice none 0 0, .slice none 0 0] 25 (0, 0))) := by show _ = _; rw [hW0]; exact al_at (by simp)
 go_enter Tryz.func31, Tryz.ntmps31
 go_upto_region 1 with fail
 rw [← hW0]
 clear hW0
 have c0 := box_at (j := 0) r1.out rfl
 have c1 := box_at (j := 1) r1.out rfl
 have c2 := box_at (j := 2) r1.out rfl
 have c3 := box_at (j := 3) r1.out rfl
 have c4 := box_at (j := 4) r1.out rfl
 have f0 := box_free r1.out
 go_wp2_with fail
 clear c0 c1 c2 c3 c4
 clear f0
 have hbz := hid (set5_below D.out (Nat.le_succ _) (.int .i64 0) (.int .i64 0) (.string ⟨#[]⟩) (.slice none 0 0) (.slice none 0 0))
 have rz := hid (set5_box (u0 := .int .i64 0) (u1 := .int .i64 0) (u2 := .string ⟨#[]⟩) (u3 := .slice none 0 0) (u4 := .slice none 0 0) r1.out)
 have hkp := hid (fun b (hb : b ≠ w.heap.size + 1) => set5_other W0 (w.heap.size + 1) (.int .i64 0) (.int .i64 0) (.string ⟨#[]⟩) (.slice none 0 0) (.slice none 0 0) (b := b) hb)
 have hsz9 := hid (set5_size W0 (w.heap.size + 1) (.int .i64 0) (.int .i64 0) (.string ⟨#[]⟩) (.slice none 0 0) (.slice none 0 0))
 unfold set5 at hbz rz hkp hsz9
 generalize ((((W0.setCell ⟨w.heap.size + 1, 0, none⟩ (.int .i64 0)).setCell ⟨w.heap.size + 1, 1, none⟩ (.int .i64 0)).setCell ⟨w.heap.size + 1, 2, none⟩ (.string ⟨#[]⟩)).setCell ⟨w.heap.size + 1, 3, none⟩ (.slice none 0 0)).setCell ⟨w.heap.size + 1, 4, none⟩ (.slice none 0 0) = w9 at *
 have z0 := box_at (j := 0) rz.out rfl
 have z1 := box_at (j := 1) rz.out rfl
 have z2 := box_at (j := 2) rz.out rfl
 have z3 := box_at (j := 3) rz.out rfl
 have z4 := box_at (j := 4) rz.out rfl
 refine ⟨rfl, _, by simp [results, Tryz.results31, go_sem, z0, z1, z2, z3, z4] <;> exact ⟨rfl, rfl⟩, [.int .i64 0, .int .i64 0, .string ⟨#[]⟩, .slice none 0 0, .slice none 0 0], rfl, hbz.out, ?_⟩
 exact rd_zeroP
set_option maxRecDepth 100000 in
set_option maxHeartbeats 8000000 in
theorem unset_calls (pa : ByteArray) (hpa : pa.size < 4294967281) (V : PVal) (hm : V.mass ≤ 1073741824) {w : World} {cs : List Value} (hTb : Tabs w) (hM : Mx w) (hV : Rd w (Now w) V cs) :
  Calls Tryz.prog 10 #[.agg cs.toArray, .string pa] w (Done6 (unsetP V pa) w) := by
 have hsf := fun (w : World) (a : Addr) (m : Mode) (fn : Fn) (first cap : Array Value) => run_store Tryz.prog w a (.func fn first cap) m rfl
 have hst := hid (fun (w' : World) (h : Below w.heap.size w w') => steps_calls pa w' hpa (hM.stays h))
 have hgd := hid (fun (w' : World) (h : Below w.heap.size w w') => good_mass V (by omega) w' cs (Tabs.stays w w' hTb h) (hV.later h))
 have hgt := hid (fun (w' : World) (h : Below w.heap.size w w') => get_calls copy_deep pa hpa V (by omega) (Tabs.stays w w' hTb h) (hM.stays h) (hV.later h))
 have hcp := hid (fun (w' : World) (h : Below w.heap.size w w') => copy_deep V w' cs (hV.later h))
 have hdn := hid (fun (W : World) (h : Below w.heap.size w W) => done_calls (kf := 31) (caps := #[]) (tf := toGone) (lays := false) (T := 1073741824) (enters_of Tryz.func31 (by kernel_rfl) rfl) pa hpa V [] hm (by omega) (by omega) (fun y _ => by simp [toGone, mass_zeroP]) (by simp)
  (fun y w' cs' b h2 _ hy => unset1_calls hy) (Tabs.stays w W hTb h) (hM.stays h) (hV.later h) (aa := none) (ac := 0) rdL_nil)
 obtain ⟨R, hR⟩ : ∃ R, R = unsetP V pa := ⟨_, rfl⟩
 rw [← hR]
 unfold unsetP askP at hR
 obtain ⟨DN, hDN⟩ : ∃ DN, DN = doneP toGone false V pa [] := ⟨_, rfl⟩
 rw [← hDN] at hdn hR
 obtain ⟨GT, hGT⟩ : ∃ GT, GT = gotP V pa := ⟨_, rfl⟩
 rw [← hGT] at hgt hR
 obtain ⟨GV, hG⟩ : ∃ GV, GV = V.good := ⟨_, rfl⟩
 rw [← hG] at hgd hR
 obtain ⟨Q, hQ⟩ : ∃ Q, Q = stepsP pa := ⟨_, rfl⟩
 rw [← hQ] at hst hR
 obtain ⟨V0, hV00⟩ : ∃ V0, V0 = V := ⟨_, rfl⟩
 rw [← hV00] at hR hcp
 simp only [List.find?_nil, Option.elim_none] at hR
 unfold Done6 at hdn ⊢
 unfold Stepped at hst
 unfold Got6 at hgt
 unfold Copied at hcp
 replace hR := hid hR
 clear hDN hGT hG hQ hV00 hTb hM hm
 obtain ⟨k, n, str, l, fn, fv⟩ := V
 obtain ⟨la, lc, fa, fc, rfl, _⟩ := hV.inv
 clear hV
 obtain ⟨W0, hW0⟩ : ∃ W0, W0 = (w.alloc (.cells #[.int .i64 k, .int .i64 n, .string str, .slice la l.length lc, .slice fa fv.length fc] 25)).alloc (.cells #[.int .i64 0, .int .i64 0, .string ⟨#[]⟩, .slice none 0 0, .slice none 0 0] 25) := ⟨_, rfl⟩
 have D : Hid (Below w.heap.size w W0) := by show Below _ _ _; rw [hW0]; exact (below_new _ _).step (below_new _ _)
 have r0 : Hid (W0.heap[w.heap.size]? = some (.cells #[.int .i64 k, .int .i64 n, .string str, .slice la l.length lc, .slice fa fv.length fc] 25 (0, 0))) := by show _ = _; rw [hW0]; exact al_old (al_at rfl)
 have r1 : Hid (W0.heap[w.heap.size + 1]? = some (.cells #[.int .i64 0, .int .i64 0, .string ⟨#[]⟩, .slice none 0 0, .slice none 0 0] 25 (0, 0))) := by show _ = _; rw [hW0]; exact al_at (by simp)
 go_enter Tryz.func10, Tryz.ntmps10
 go_upto_region 1 with fail
 rw [← hW0]
 clear hW0
 have b0 := box_at (j := 0) r0.out rfl
 have b1 := box_at (j := 1) r0.out rfl
 have b2 := box_at (j := 2) r0.out rfl
 have b3 := box_at (j := 3) r0.out rfl
 have b4 := box_at (j := 4) r0.out rfl
 go_wp2_with fail
 clear b0 b1 b2 b3 b4
 refine (hgd.out _ D.out).mono ?_
 rintro e w1 ⟨rfl, h1⟩
 have D1 := hid (D.out.step h1)
 have q0 := hid ((h1.block _ (lt_of_block r0.out)).trans r0.out)
 have q1 := hid ((h1.block _ (lt_of_block r1.out)).trans r1.out)
 clear h1 hgd r0 r1
 by_cases hG0 : GV = 0
 ·subst hG0
  go_wp2_with fail
  refine (hst.out _ D1.out).mono ?_
  rintro e w2 ⟨h2, hres⟩
  have D2 := hid (D1.out.step h2)
  have p0 := hid ((h2.block _ (lt_of_block q0.out)).trans q0.out)
  have p1 := hid ((h2.block _ (lt_of_block q1.out)).trans q1.out)
  clear h2 q0 q1 D1 hst
  cases Q with
  | none =>
   simp only at hres
   subst hres
   obtain rfl : R = (zeroP, 14) := by rw [hR.out]; simp
   clear hR hgt hcp hdn
   have c0 := box_at (j := 0) p1.out rfl
   have c1 := box_at (j := 1) p1.out rfl
   have c2 := box_at (j := 2) p1.out rfl
   have c3 := box_at (j := 3) p1.out rfl
   have c4 := box_at (j := 4) p1.out rfl
   have f0 := box_free p1.out
   go_wp2_with fail
   clear c0 c1 c2 c3 c4
   clear f0
   have hbz := hid (set5_below D2.out (Nat.le_succ _) (.int .i64 0) (.int .i64 0) (.string ⟨#[]⟩) (.slice none 0 0) (.slice none 0 0))
   have rz := hid (set5_box (u0 := .int .i64 0) (u1 := .int .i64 0) (u2 := .string ⟨#[]⟩) (u3 := .slice none 0 0) (u4 := .slice none 0 0) p1.out)
   have hkp := hid (fun b (hb : b ≠ w.heap.size + 1) => set5_other w2 (w.heap.size + 1) (.int .i64 0) (.int .i64 0) (.string ⟨#[]⟩) (.slice none 0 0) (.slice none 0 0) (b := b) hb)
   have hsz9 := hid (set5_size w2 (w.heap.size + 1) (.int .i64 0) (.int .i64 0) (.string ⟨#[]⟩) (.slice none 0 0) (.slice none 0 0))
   unfold set5 at hbz rz hkp hsz9
   generalize ((((w2.setCell ⟨w.heap.size + 1, 0, none⟩ (.int .i64 0)).setCell ⟨w.heap.size + 1, 1, none⟩ (.int .i64 0)).setCell ⟨w.heap.size + 1, 2, none⟩ (.string ⟨#[]⟩)).setCell ⟨w.heap.size + 1, 3, none⟩ (.slice none 0 0)).setCell ⟨w.heap.size + 1, 4, none⟩ (.slice none 0 0) = w9 at *
   have z0 := box_at (j := 0) rz.out rfl
   have z1 := box_at (j := 1) rz.out rfl
   have z2 := box_at (j := 2) rz.out rfl
   have z3 := box_at (j := 3) rz.out rfl
   have z4 := box_at (j := 4) rz.out rfl
   refine ⟨rfl, _, by simp [results, Tryz.results10, go_sem, z0, z1, z2, z3, z4] <;> exact ⟨rfl, rfl⟩, [.int .i64 0, .int .i64 0, .string ⟨#[]⟩, .slice none 0 0, .slice none 0 0], rfl, hbz.out, ?_⟩
   exact rd_zeroP
  | some ss =>
   obtain ⟨sv, rfl, hss⟩ := hres
   have hR3 : Hid (R = if GT = none then (V0, 0) else DN) := by show _ = _; rw [hR.out]; simp
   clear hR hss
   have b0 := box_at (j := 0) p0.out rfl
   have b1 := box_at (j := 1) p0.out rfl
   have b2 := box_at (j := 2) p0.out rfl
   have b3 := box_at (j := 3) p0.out rfl
   have b4 := box_at (j := 4) p0.out rfl
   go_wp2_with fail
   clear b0 b1 b2 b3 b4
   refine (hgt.out _ D2.out).mono ?_
   rintro e w3 ⟨cs3, rfl, h3, hr3⟩
   have D3 := hid (D2.out.step h3)
   have m0 := hid ((h3.block _ (lt_of_block p0.out)).trans p0.out)
   have m1 := hid ((h3.block _ (lt_of_block p1.out)).trans p1.out)
   obtain ⟨XX, hXX⟩ : ∃ XX, XX = GT.getD zeroP := ⟨_, rfl⟩
   rw [← hXX] at hr3
   obtain ⟨xk, xn, xt, xl, xfn, xfv⟩ := XX
   obtain ⟨ya, yc, za, zc, rfl, _⟩ := hr3.inv
   clear h3 hr3 hXX p0 p1 D2 hgt
   cases GT with
   | none =>
    obtain rfl : R = (V0, 0) := by rw [hR3.out, if_pos rfl]
    clear hR3 hdn
    have N4 := hid (below_new w3 (.cells #[.int .i64 xk, .int .i64 xn, .string xt, .slice ya xl.length yc, .slice za xfv.length zc] 25))
    have D4 := hid (D3.out.step N4.out)
    have n0 := hid (al_old (o := (.cells #[.int .i64 xk, .int .i64 xn, .string xt, .slice ya xl.length yc, .slice za xfv.length zc] 25)) m0.out)
    have n1 := hid (al_old (o := (.cells #[.int .i64 xk, .int .i64 xn, .string xt, .slice ya xl.length yc, .slice za xfv.length zc] 25)) m1.out)
    have b0 := box_at (j := 0) n0.out rfl
    have b1 := box_at (j := 1) n0.out rfl
    have b2 := box_at (j := 2) n0.out rfl
    have b3 := box_at (j := 3) n0.out rfl
    have b4 := box_at (j := 4) n0.out rfl
    go_wp2_with fail
    clear b0 b1 b2 b3 b4
    refine (hcp.out _ D4.out).mono ?_
    rintro e w5 ⟨cs5, rfl, hr9, h5⟩
    obtain ⟨zk, zn, zt, zl, zfn, zfv⟩ := V0
    obtain ⟨qa, qc, pa', pc, rfl, _⟩ := hr9.inv
    replace hr9 := hid hr9
    have D5 := hid (D4.out.step h5)
    have o1 := hid ((h5.block _ (lt_of_block n1.out)).trans n1.out)
    have hlo : Hid (w.heap.size + 1 < (w3.alloc (.cells #[.int .i64 xk, .int .i64 xn, .string xt, .slice ya xl.length yc, .slice za xfv.length zc] 25)).heap.size) := lt_of_block n1.out
    clear h5
    have c0 := box_at (j := 0) o1.out rfl
    have c1 := box_at (j := 1) o1.out rfl
    have c2 := box_at (j := 2) o1.out rfl
    have c3 := box_at (j := 3) o1.out rfl
    have c4 := box_at (j := 4) o1.out rfl
    have f0 := box_free o1.out
    go_wp2_with fail
    clear c0 c1 c2 c3 c4
    clear f0
    have hbz := hid (set5_below D5.out (Nat.le_succ _) (.int .i64 zk) (.int .i64 zn) (.string zt) (.slice qa zl.length qc) (.slice pa' zfv.length pc))
    have rz := hid (set5_box (u0 := .int .i64 zk) (u1 := .int .i64 zn) (u2 := .string zt) (u3 := .slice qa zl.length qc) (u4 := .slice pa' zfv.length pc) o1.out)
    have hkp := hid (fun b (hb : b ≠ w.heap.size + 1) => set5_other w5 (w.heap.size + 1) (.int .i64 zk) (.int .i64 zn) (.string zt) (.slice qa zl.length qc) (.slice pa' zfv.length pc) (b := b) hb)
    have hsz9 := hid (set5_size w5 (w.heap.size + 1) (.int .i64 zk) (.int .i64 zn) (.string zt) (.slice qa zl.length qc) (.slice pa' zfv.length pc))
    unfold set5 at hbz rz hkp hsz9
    generalize ((((w5.setCell ⟨w.heap.size + 1, 0, none⟩ (.int .i64 zk)).setCell ⟨w.heap.size + 1, 1, none⟩ (.int .i64 zn)).setCell ⟨w.heap.size + 1, 2, none⟩ (.string zt)).setCell ⟨w.heap.size + 1, 3, none⟩ (.slice qa zl.length qc)).setCell ⟨w.heap.size + 1, 4, none⟩ (.slice pa' zfv.length pc) = w9 at *
    have z0 := box_at (j := 0) rz.out rfl
    have z1 := box_at (j := 1) rz.out rfl
    have z2 := box_at (j := 2) rz.out rfl
    have z3 := box_at (j := 3) rz.out rfl
    have z4 := box_at (j := 4) rz.out rfl
    refine ⟨rfl, _, by simp [results, Tryz.results10, go_sem, z0, z1, z2, z3, z4] <;> exact ⟨rfl, rfl⟩, [.int .i64 zk, .int .i64 zn, .string zt, .slice qa zl.length qc, .slice pa' zfv.length pc], rfl, hbz.out, ?_⟩
    exact hr9.out.keep (fun c h => ⟨⟨by have := h.1.1; have := hlo.out; omega, by rw [hsz9.out]; exact h.1.2⟩, Warm.keep (w := w5) h.2 (hkp.out c (by have := h.1.1; have := hlo.out; omega))⟩) (fun c h => hkp.out c (by have := h.1.1; have := hlo.out; omega))
   | some Y =>
    obtain rfl : R = DN := by rw [hR3.out]; simp
    clear hR3 hcp
    have N4 := hid (below_new w3 (.cells #[.int .i64 xk, .int .i64 xn, .string xt, .slice ya xl.length yc, .slice za xfv.length zc] 25))
    have D4 := hid (D3.out.step N4.out)
    have n0 := hid (al_old (o := (.cells #[.func (.func 31) #[] #[], .bool false] 50)) (al_old (o := (.cells #[.int .i64 xk, .int .i64 xn, .string xt, .slice ya xl.length yc, .slice za xfv.length zc] 25)) m0.out))
    have n1 := hid (al_old (o := (.cells #[.func (.func 31) #[] #[], .bool false] 50)) (al_old (o := (.cells #[.int .i64 xk, .int .i64 xn, .string xt, .slice ya xl.length yc, .slice za xfv.length zc] 25)) m1.out))
    have D5 := hid (D4.out.step (below_new (w3.alloc (.cells #[.int .i64 xk, .int .i64 xn, .string xt, .slice ya xl.length yc, .slice za xfv.length zc] 25)) (.cells #[.func (.func 31) #[] #[], .bool false] 50)))
    have b0 := box_at (j := 0) n0.out rfl
    have b1 := box_at (j := 1) n0.out rfl
    have b2 := box_at (j := 2) n0.out rfl
    have b3 := box_at (j := 3) n0.out rfl
    have b4 := box_at (j := 4) n0.out rfl
    go_wp2_with fail
    clear b0 b1 b2 b3 b4
    refine (hdn.out _ D5.out).mono ?_
    rintro e w5 ⟨cs5, rfl, h5, hr9⟩
    obtain ⟨rv, re⟩ := R
    obtain ⟨zk, zn, zt, zl, zfn, zfv⟩ := rv
    obtain ⟨qa, qc, pa', pc, rfl, _⟩ := hr9.inv
    replace hr9 := hid hr9
    have D6 := hid (D5.out.step h5)
    have o1 := hid ((h5.block _ (lt_of_block n1.out)).trans n1.out)
    have hlo : Hid (w.heap.size + 1 < ((w3.alloc (.cells #[.int .i64 xk, .int .i64 xn, .string xt, .slice ya xl.length yc, .slice za xfv.length zc] 25)).alloc (.cells #[.func (.func 31) #[] #[], .bool false] 50)).heap.size) := lt_of_block n1.out
    clear h5
    have c0 := box_at (j := 0) o1.out rfl
    have c1 := box_at (j := 1) o1.out rfl
    have c2 := box_at (j := 2) o1.out rfl
    have c3 := box_at (j := 3) o1.out rfl
    have c4 := box_at (j := 4) o1.out rfl
    have f0 := box_free o1.out
    go_wp2_with fail
    clear c0 c1 c2 c3 c4
    clear f0
    have hbz := hid (set5_below D6.out (Nat.le_succ _) (.int .i64 zk) (.int .i64 zn) (.string zt) (.slice qa zl.length qc) (.slice pa' zfv.length pc))
    have rz := hid (set5_box (u0 := .int .i64 zk) (u1 := .int .i64 zn) (u2 := .string zt) (u3 := .slice qa zl.length qc) (u4 := .slice pa' zfv.length pc) o1.out)
    have hkp := hid (fun b (hb : b ≠ w.heap.size + 1) => set5_other w5 (w.heap.size + 1) (.int .i64 zk) (.int .i64 zn) (.string zt) (.slice qa zl.length qc) (.slice pa' zfv.length pc) (b := b) hb)
    have hsz9 := hid (set5_size w5 (w.heap.size + 1) (.int .i64 zk) (.int .i64 zn) (.string zt) (.slice qa zl.length qc) (.slice pa' zfv.length pc))
    unfold set5 at hbz rz hkp hsz9
    generalize ((((w5.setCell ⟨w.heap.size + 1, 0, none⟩ (.int .i64 zk)).setCell ⟨w.heap.size + 1, 1, none⟩ (.int .i64 zn)).setCell ⟨w.heap.size + 1, 2, none⟩ (.string zt)).setCell ⟨w.heap.size + 1, 3, none⟩ (.slice qa zl.length qc)).setCell ⟨w.heap.size + 1, 4, none⟩ (.slice pa' zfv.length pc) = w9 at *
    have z0 := box_at (j := 0) rz.out rfl
    have z1 := box_at (j := 1) rz.out rfl
    have z2 := box_at (j := 2) rz.out rfl
    have z3 := box_at (j := 3) rz.out rfl
    have z4 := box_at (j := 4) rz.out rfl
    refine ⟨rfl, _, by simp [results, Tryz.results10, go_sem, z0, z1, z2, z3, z4] <;> exact ⟨rfl, rfl⟩, [.int .i64 zk, .int .i64 zn, .string zt, .slice qa zl.length qc, .slice pa' zfv.length pc], rfl, hbz.out, ?_⟩
    exact hr9.out.keep (fun c h => ⟨⟨by have := h.1.1; have := hlo.out; omega, by rw [hsz9.out]; exact h.1.2⟩, Warm.keep (w := w5) h.2 (hkp.out c (by have := h.1.1; have := hlo.out; omega))⟩) (fun c h => hkp.out c (by have := h.1.1; have := hlo.out; omega))
 ·have hGi : (GV != 0) = true := by simp [hG0]
  obtain rfl : R = (zeroP, GV) := by rw [hR.out]; simp [hG0]
  clear hR hst hgt hcp hdn hG0
  have c0 := box_at (j := 0) q1.out rfl
  have c1 := box_at (j := 1) q1.out rfl
  have c2 := box_at (j := 2) q1.out rfl
  have c3 := box_at (j := 3) q1.out rfl
  have c4 := box_at (j := 4) q1.out rfl
  have f0 := box_free q1.out
  go_wp2_with fail
  clear c0 c1 c2 c3 c4
  clear f0
  have hbz := hid (set5_below D1.out (Nat.le_succ _) (.int .i64 0) (.int .i64 0) (.string ⟨#[]⟩) (.slice none 0 0) (.slice none 0 0))
  have rz := hid (set5_box (u0 := .int .i64 0) (u1 := .int .i64 0) (u2 := .string ⟨#[]⟩) (u3 := .slice none 0 0) (u4 := .slice none 0 0) q1.out)
  have hkp := hid (fun b (hb : b ≠ w.heap.size + 1) => set5_other w1 (w.heap.size + 1) (.int .i64 0) (.int .i64 0) (.string ⟨#[]⟩) (.slice none 0 0) (.slice none 0 0) (b := b) hb)
  have hsz9 := hid (set5_size w1 (w.heap.size + 1) (.int .i64 0) (.int .i64 0) (.string ⟨#[]⟩) (.slice none 0 0) (.slice none 0 0))
  unfold set5 at hbz rz hkp hsz9
  generalize ((((w1.setCell ⟨w.heap.size + 1, 0, none⟩ (.int .i64 0)).setCell ⟨w.heap.size + 1, 1, none⟩ (.int .i64 0)).setCell ⟨w.heap.size + 1, 2, none⟩ (.string ⟨#[]⟩)).setCell ⟨w.heap.size + 1, 3, none⟩ (.slice none 0 0)).setCell ⟨w.heap.size + 1, 4, none⟩ (.slice none 0 0) = w9 at *
  have z0 := box_at (j := 0) rz.out rfl
  have z1 := box_at (j := 1) rz.out rfl
  have z2 := box_at (j := 2) rz.out rfl
  have z3 := box_at (j := 3) rz.out rfl
  have z4 := box_at (j := 4) rz.out rfl
  refine ⟨rfl, _, by simp [results, Tryz.results10, go_sem, z0, z1, z2, z3, z4] <;> exact ⟨rfl, rfl⟩, [.int .i64 0, .int .i64 0, .string ⟨#[]⟩, .slice none 0 0, .slice none 0 0], rfl, hbz.out, ?_⟩
  exact rd_zeroP
end Go.Proofs.YthjihdpleclejaaGreatDoor
