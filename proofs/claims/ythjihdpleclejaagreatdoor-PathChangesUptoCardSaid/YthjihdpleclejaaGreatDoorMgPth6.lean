/-
  Walk: path.Get.
  Walk: the document's Find of a field.
-/
import Derived.Test.YthjihdpleclejaaGreatDoorMgPth4
import Derived.Test.YthjihdpleclejaaGreatDoorMgPthV
import Derived.Test.YthjihdpleclejaaGreatDoorMgRef6
namespace Go.Proofs.YthjihdpleclejaaGreatDoor
open Go.RowKit Go.Proofs
theorem nodes_massL (l : List PVal) (h : ∀ x ∈ l, x.nodes ≤ x.mass) : nodesL l ≤ massL l := by
 induction l with
 | nil => simp [nodesL, massL]
 | cons x r ih =>
  have h1 := h x (by simp)
  have h2 := ih (fun y hy => h y (by simp [hy]))
  simp only [nodesL, massL]; omega
theorem nodes_mass (V : PVal) : V.nodes ≤ V.mass := by
 induction V using PVal.ind with
 | h k n s l fn fv hl hf =>
  have h1 := nodes_massL l hl
  have h2 := nodes_massL fv hf
  simp only [PVal.nodes, PVal.mass]; omega
theorem size_mass {V : PVal} (h : V.fits) : V.size ≤ V.mass := by
 rw [size_enc V h]; exact enc_le V h
theorem good_mass (V : PVal) (hm : V.mass ≤ 1000000000000) (w : World) (cs : List Value) (hT : Tabs w) (hV : Rd w (Now w) V cs) :
  Calls Tryz.prog 28 #[.agg cs.toArray] w fun e w' => e = .returned (.int .i64 V.good) ∧ Below w.heap.size w w' :=
 good_big V w cs (by have := nodes_mass V; omega) (by have := size_mass hV.fits; omega) hT hV
theorem rgood_mass (V : PVal) (hm : V.mass ≤ 1073741824) (w : World) (cs : List Value) (hV : Rd w (Now w) V cs) :
  Calls Tryz.prog 34 #[.agg cs.toArray] w fun e w' => e = .returned (.int .i64 V.good) ∧ Below w.heap.size w w' :=
 rgood_big V (by have := nodes_mass V; omega) hm w cs hV
def Free (B : Nat) (w : World) (b : Nat) : Prop := From B w b ∧ ∀ off, w.frozen? ⟨b, off, none⟩ = false
def Copied (V : PVal) (w : World) (e : Ending) (w' : World) : Prop := ∃ cs, e = .returned (.agg cs.toArray) ∧ Rd w' (Free w.heap.size w') V cs ∧ Below w.heap.size w w'
def Got6 (R : Option PVal) (w : World) (e : Ending) (w' : World) : Prop := ∃ cs, e = .returned (.tuple #[.agg cs.toArray, .bool R.isSome]) ∧ Below w.heap.size w w' ∧ Rd w' (Free w.heap.size w') (R.getD zeroP) cs
theorem getP_nil (v : PVal) : getP v [] = some v := by rw [getP]
theorem getP_step {v y : PVal} {s : ByteArray} {r : List ByteArray} (h : leads v s = some y) : getP v (s :: r) = getP y r := by rw [getP, h]
theorem getP_stop {v : PVal} {s : ByteArray} {r : List ByteArray} (h : leads v s = none) : getP v (s :: r) = none := by rw [getP, h]
theorem Rd.now_free {w : World} {B : Nat} {V : PVal} {cs : List Value} (h : Rd w (Free B w) V cs) : Rd w (Now w) V cs := h.keep (fun _ h => h.1.2) (fun _ _ => rfl)
set_option maxRecDepth 100000 in
set_option maxHeartbeats 4000000 in
theorem get_calls (hcopy : ∀ (V : PVal) (w : World) (cs : List Value), Rd w (Now w) V cs → Calls Tryz.prog 30 #[.agg cs.toArray] w (Copied V w))
  (pa : ByteArray) (hpa : pa.size < 4294967281) (V : PVal) (hm : V.mass ≤ 1000000000000) {w : World} {cs : List Value} (hT : Tabs w) (hM : Mx w) (hV : Rd w (Now w) V cs) :
  Calls Tryz.prog 11 #[.agg cs.toArray, .string pa] w (Got6 (gotP V pa) w) := by
 have hst := hid (fun (w' : World) (h : Below w.heap.size w w') => steps_calls pa w' hpa (hM.stays h))
 have hV0 := hid hV
 have hgd := hid (fun (w' : World) (h : Below w.heap.size w w') => good_mass V hm w' cs (Tabs.stays w w' hT h) (hV.later h))
 replace hcopy := hid hcopy
 have hso : Hid (V.good = 0 → Sound V) := fun h => ⟨hV.fits, ((good_iff V).1 h).1⟩
 have hsm : Hid (∀ l x, stepsP pa = some l → x ∈ l → x.size ≤ 140737488355328) := fun l x h hx => by have := name_size ((stepsP_is h).2.2.1 x hx); omega
 unfold gotP
 obtain ⟨G, hG⟩ : ∃ G, G = V.good := ⟨_, rfl⟩
 rw [← hG] at hgd hso ⊢
 obtain ⟨Q, hQ⟩ : ∃ Q, Q = stepsP pa := ⟨_, rfl⟩
 rw [← hQ] at hst hsm ⊢
 clear hG hQ
 unfold Got6
 obtain ⟨R, hR⟩ : ∃ R : Option PVal, R = if G ≠ 0 then none else Q.bind (getP V) := ⟨_, rfl⟩
 rw [← hR]
 replace hR := hid hR
 obtain ⟨V0, hV00⟩ : ∃ V0, V0 = V := ⟨_, rfl⟩
 obtain ⟨k, n, str, l, fn, fv⟩ := V
 obtain ⟨la, lc, fa, fc, rfl, _⟩ := hV.inv
 rw [← hV00] at hso hV0 hR
 clear hV hm hV00 hM hT
 unfold Stepped at hst
 obtain ⟨W0, hW0⟩ : ∃ W0, W0 = (w.alloc (.cells #[.int .i64 k, .int .i64 n, .string str, .slice la l.length lc, .slice fa fv.length fc] 25)).alloc (.cells #[.int .i64 0, .int .i64 0, .string ⟨#[]⟩, .slice none 0 0, .slice none 0 0] 25) := ⟨_, rfl⟩
 have D : Hid (Below w.heap.size w W0) := by show Below _ _ _; rw [hW0]; exact (below_new _ _).step (below_new _ _)
 have r0 : Hid (W0.heap[w.heap.size]? = some (.cells #[.int .i64 k, .int .i64 n, .string str, .slice la l.length lc, .slice fa fv.length fc] 25 (0, 0))) := by show _ = _; rw [hW0]; exact al_old (al_at rfl)
 have r1 : Hid (W0.heap[w.heap.size + 1]? = some (.cells #[.int .i64 0, .int .i64 0, .string ⟨#[]⟩, .slice none 0 0, .slice none 0 0] 25 (0, 0))) := by show _ = _; rw [hW0]; exact al_at (by simp)
 have hW0s : Hid (W0.heap.size = w.heap.size + 2) := by show _ = _; rw [hW0]; simp
 go_enter Tryz.func11, Tryz.ntmps11
 go_upto_region 1 with fail
 rw [← hW0]
 clear hW0
 go_wp2_with fail
 refine (hst.out _ D.out).mono ?_
 rintro e w2 ⟨h2, hres⟩
 replace D := hid (D.out.step h2)
 replace r0 := hid ((h2.block _ (lt_of_block r0.out)).trans r0.out)
 replace r1 := hid ((h2.block _ (lt_of_block r1.out)).trans r1.out)
 cases Q with
 | none =>
  simp only at hres
  subst hres
  obtain rfl : R = none := by have := hR.out; split at this; exact this; exact this
  have b0 := box_at (j := 0) r0.out rfl
  have b1 := box_at (j := 1) r0.out rfl
  have b2 := box_at (j := 2) r0.out rfl
  have b3 := box_at (j := 3) r0.out rfl
  have b4 := box_at (j := 4) r0.out rfl
  have c0 := box_at (j := 0) r1.out rfl
  have c1 := box_at (j := 1) r1.out rfl
  have c2 := box_at (j := 2) r1.out rfl
  have c3 := box_at (j := 3) r1.out rfl
  have c4 := box_at (j := 4) r1.out rfl
  have f0 := box_free r1.out
  clear hR hsm hso hst h2
  go_wp2_with fail
  clear b0 b1 b2 b3 b4
  clear c0 c1 c2 c3 c4
  clear f0
  have hbz := hid (set5_below D.out (Nat.le_succ _) (.int .i64 0) (.int .i64 0) (.string ⟨#[]⟩) (.slice none 0 0) (.slice none 0 0))
  have rz := hid (set5_box (u0 := .int .i64 0) (u1 := .int .i64 0) (u2 := .string ⟨#[]⟩) (u3 := .slice none 0 0) (u4 := .slice none 0 0) r1.out)
  have hkp := hid (fun b (hb : b ≠ w.heap.size + 1) => set5_other w2 (w.heap.size + 1) (.int .i64 0) (.int .i64 0) (.string ⟨#[]⟩) (.slice none 0 0) (.slice none 0 0) (b := b) hb)
  have hsz9 := hid (set5_size w2 (w.heap.size + 1) (.int .i64 0) (.int .i64 0) (.string ⟨#[]⟩) (.slice none 0 0) (.slice none 0 0))
  unfold set5 at hbz rz hkp hsz9
  generalize ((((w2.setCell ⟨w.heap.size + 1, 0, none⟩ (.int .i64 0)).setCell ⟨w.heap.size + 1, 1, none⟩ (.int .i64 0)).setCell ⟨w.heap.size + 1, 2, none⟩ (.string ⟨#[]⟩)).setCell ⟨w.heap.size + 1, 3, none⟩ (.slice none 0 0)).setCell ⟨w.heap.size + 1, 4, none⟩ (.slice none 0 0) = w9 at *
  have z0 := box_at (j := 0) rz.out rfl
  have z1 := box_at (j := 1) rz.out rfl
  have z2 := box_at (j := 2) rz.out rfl
  have z3 := box_at (j := 3) rz.out rfl
  have z4 := box_at (j := 4) rz.out rfl
  refine ⟨rfl, _, by simp [results, Tryz.results11, go_sem, z0, z1, z2, z3, z4] <;> exact ⟨rfl, rfl⟩, [.int .i64 0, .int .i64 0, .string ⟨#[]⟩, .slice none 0 0, .slice none 0 0], rfl, hbz.out, ?_⟩
  exact rd_zeroP
 | some ss =>
  obtain ⟨sv, rfl, hss⟩ := hres
  have hQ2 := hid (fun x hx => hsm.out ss x rfl hx)
  clear hst hsm
  have b0 := box_at (j := 0) r0.out rfl
  have b1 := box_at (j := 1) r0.out rfl
  have b2 := box_at (j := 2) r0.out rfl
  have b3 := box_at (j := 3) r0.out rfl
  have b4 := box_at (j := 4) r0.out rfl
  have c0 := box_at (j := 0) r1.out rfl
  have c1 := box_at (j := 1) r1.out rfl
  have c2 := box_at (j := 2) r1.out rfl
  have c3 := box_at (j := 3) r1.out rfl
  have c4 := box_at (j := 4) r1.out rfl
  have f0 := box_free r1.out
  replace hss := hid hss
  obtain ⟨sa, sc, rfl, hsl1, hsl2, _⟩ := id hss.out
  replace h2 := hid h2
  go_wp2_with fail
  clear b0 b1 b2 b3 b4
  clear c0 c1 c2 c3 c4
  clear f0
  refine (hgd.out _ D.out).mono ?_
  rintro e w3 ⟨rfl, h3⟩
  clear hgd
  replace D := hid (D.out.step h3)
  replace r0 := hid ((h3.block _ (lt_of_block r0.out)).trans r0.out)
  replace r1 := hid ((h3.block _ (lt_of_block r1.out)).trans r1.out)
  have hss3 := hid (hss.out.keep (S' := From W0.heap.size w2) (fun _ h => h) (fun b hb => h3.block b hb.2))
  have hs32 := hid h3.size
  clear h3 hss h2
  by_cases hG : G = 0
  ·subst hG
   have hR2 : R = getP V0 ss := by have := hR.out; rw [if_neg (by simp)] at this; exact this
   have hso2 := hid (hso.out rfl)
   have hV3 := hid (hV0.out.keep (S' := Now w) (fun _ h => h) (fun b hb => D.out.block b hb))
   replace hR2 := hid hR2
   clear hR hso hV0
   go_wp2_with fail
   go_loopg [26] ss.length (fun g i wr => ∃ (j : Nat) (y : PVal) (v0 v1 v2 v3 v4 : Value), g + j = ss.length ∧ i = .int .i64 j ∧ Sound y ∧ R = getP y (ss.drop j) ∧ wr.heap[w.heap.size]? = some (.cells #[v0, v1, v2, v3, v4] 25 (0, 0)) ∧ Rd wr (Now w) y [v0, v1, v2, v3, v4] ∧ wr.heap[w.heap.size + 1]? = some (.cells #[.int .i64 0, .int .i64 0, .string ⟨#[]⟩, .slice none 0 0, .slice none 0 0] 25 (0, 0)) ∧ StrsAt wr (From W0.heap.size w2) ss (.slice sa ss.length sc) ∧ w2.heap.size ≤ wr.heap.size ∧ Below w.heap.size w wr)
   case atStart => exact ⟨0, V0, _, _, _, _, _, by omega, rfl, hso2.out, hR2.out, r0.out, hV3.out, r1.out, hss3.out, hs32.out, D.out⟩
   case round =>
    clear r0 r1 hV3 hss3 D hso2 hR2
    obtain ⟨j, y, v0, v1, v2, v3, v4, hg, rfl, hsy, hRy, q0, hy, q1, hsr, hwz, hb⟩ := hrel
    replace hwz := hid hwz
    replace hsy := hid hsy
    replace hRy := hid hRy
    replace q0 := hid q0
    replace hy := hid hy
    replace q1 := hid q1
    replace hsr := hid hsr
    replace hb := hid hb
    obtain ⟨yk, yn, ys, yl, yfn, yfv⟩ := y
    obtain ⟨a1, a2, a3, a4, hcs, _⟩ := hy.out.inv
    simp only [List.cons.injEq, and_true] at hcs
    obtain ⟨rfl, rfl, rfl, rfl, rfl⟩ := hcs
    by_cases hlt : j < ss.length
    ·obtain ⟨s, hs⟩ : ∃ s, ss[j]? = some s := ⟨_, List.getElem?_eq_getElem hlt⟩
     have hss := hQ2.out s (List.mem_of_getElem? hs)
     have hdr : Hid (ss.drop j = s :: ss.drop (j + 1)) := by show _ = _; rw [List.drop_eq_getElem_cons hlt, (List.getElem?_eq_some_iff.1 hs).2]
     obtain ⟨sb, so, rfl, hSb, hsc⟩ : ∃ b off, sa = some ⟨b, off, none⟩ ∧ From W0.heap.size w2 b ∧ ∀ (j : Nat) (s : ByteArray), ss[j]? = some s → wr.cell? ⟨b, off + j, none⟩ = some (.string s) := by
      obtain ⟨a', c', e1, _, _, h4⟩ := hsr.out
      injection e1 with e1
      subst e1
      rcases h4 with h4 | h4
      ·rw [h4] at hlt; simp at hlt
      ·exact h4
     have sc0 := hsc j s hs
     have hstp := hid (step_calls s hss (S := Now w) (fun b hb' => Nat.lt_of_lt_of_le hb' hb.out.size) hy.out hsy.out.up)
     have e1 : IntKind.i64.wrap ((j : Int) + 1) = (j : Int) + 1 := by rw [IntWalk.i64_in _ (by omega)]
     clear hsc hs
     have b0 := box_at (j := 0) q0.out rfl
     have b1 := box_at (j := 1) q0.out rfl
     have b2 := box_at (j := 2) q0.out rfl
     have b3 := box_at (j := 3) q0.out rfl
     have b4 := box_at (j := 4) q0.out rfl
     go_wp2_with fail
     clear b0 b1 b2 b3 b4
     clear sc0
     refine hstp.out.mono ?_
     rintro e w4 ⟨cs4, rfl, h4, hr4⟩
     clear hstp
     obtain ⟨L, hL⟩ : ∃ L, L = leads (.mk yk yn ys yl yfn yfv) s := ⟨_, rfl⟩
     rw [← hL] at hr4 ⊢
     replace hb := hid (hb.out.step h4)
     replace q0 := hid ((h4.block _ (lt_of_block q0.out)).trans q0.out)
     replace q1 := hid ((h4.block _ (lt_of_block q1.out)).trans q1.out)
     have hsr4 := hid (hsr.out.keep (S' := From W0.heap.size w2) (fun _ h => h) (fun b hb' => h4.block b (Nat.lt_of_lt_of_le hb'.2 hwz.out)))
     replace hwz := hid (Nat.le_trans hwz.out h4.size)
     clear h4 hsr hy
     have hRs := hRy.out
     rw [hdr.out] at hRs
     clear hRy hdr
     cases L with
     | none =>
      rw [getP_stop hL.symm] at hRs
      subst hRs
      obtain ⟨ya, yc, za, zc, rfl, _⟩ := hr4.inv
      clear hr4 hL hsr4 hsy
      have b0 := box_at (j := 0) q0.out rfl
      have b1 := box_at (j := 1) q0.out rfl
      have b2 := box_at (j := 2) q0.out rfl
      have b3 := box_at (j := 3) q0.out rfl
      have b4 := box_at (j := 4) q0.out rfl
      have g0 := box_free q0.out
      go_upto_region 9 with fail
      clear b0 b1 b2 b3 b4
      clear g0
      have hbz := hid (set5_below hb.out (Nat.le_refl _) (.int .i64 0) (.int .i64 0) (.string ByteArray.empty) (.slice ya 0 yc) (.slice za 0 zc))
      have rz := hid (set5_box (u0 := .int .i64 0) (u1 := .int .i64 0) (u2 := .string ByteArray.empty) (u3 := .slice ya 0 yc) (u4 := .slice za 0 zc) q0.out)
      have hkp := hid (fun b (hb : b ≠ w.heap.size) => set5_other w4 (w.heap.size) (.int .i64 0) (.int .i64 0) (.string ByteArray.empty) (.slice ya 0 yc) (.slice za 0 zc) (b := b) hb)
      have hsz9 := hid (set5_size w4 (w.heap.size) (.int .i64 0) (.int .i64 0) (.string ByteArray.empty) (.slice ya 0 yc) (.slice za 0 zc))
      unfold set5 at hbz rz hkp hsz9
      generalize ((((w4.setCell ⟨w.heap.size, 0, none⟩ (.int .i64 0)).setCell ⟨w.heap.size, 1, none⟩ (.int .i64 0)).setCell ⟨w.heap.size, 2, none⟩ (.string ByteArray.empty)).setCell ⟨w.heap.size, 3, none⟩ (.slice ya 0 yc)).setCell ⟨w.heap.size, 4, none⟩ (.slice za 0 zc) = w5 at *
      have q15 := hid ((hkp.out (w.heap.size + 1) (by omega)).trans q1.out)
      clear hkp rz hsz9 q0 q1
      have c0 := box_at (j := 0) q15.out rfl
      have c1 := box_at (j := 1) q15.out rfl
      have c2 := box_at (j := 2) q15.out rfl
      have c3 := box_at (j := 3) q15.out rfl
      have c4 := box_at (j := 4) q15.out rfl
      have f0 := box_free q15.out
      go_wp2_with fail
      have D5 := hid hbz.out
      clear hbz
      clear c0 c1 c2 c3 c4
      clear f0
      have hbz := hid (set5_below D5.out (Nat.le_succ _) (.int .i64 0) (.int .i64 0) (.string ⟨#[]⟩) (.slice none 0 0) (.slice none 0 0))
      have rz := hid (set5_box (u0 := .int .i64 0) (u1 := .int .i64 0) (u2 := .string ⟨#[]⟩) (u3 := .slice none 0 0) (u4 := .slice none 0 0) q15.out)
      have hkp := hid (fun b (hb : b ≠ w.heap.size + 1) => set5_other w5 (w.heap.size + 1) (.int .i64 0) (.int .i64 0) (.string ⟨#[]⟩) (.slice none 0 0) (.slice none 0 0) (b := b) hb)
      have hsz9 := hid (set5_size w5 (w.heap.size + 1) (.int .i64 0) (.int .i64 0) (.string ⟨#[]⟩) (.slice none 0 0) (.slice none 0 0))
      unfold set5 at hbz rz hkp hsz9
      generalize ((((w5.setCell ⟨w.heap.size + 1, 0, none⟩ (.int .i64 0)).setCell ⟨w.heap.size + 1, 1, none⟩ (.int .i64 0)).setCell ⟨w.heap.size + 1, 2, none⟩ (.string ⟨#[]⟩)).setCell ⟨w.heap.size + 1, 3, none⟩ (.slice none 0 0)).setCell ⟨w.heap.size + 1, 4, none⟩ (.slice none 0 0) = w9 at *
      have z0 := box_at (j := 0) rz.out rfl
      have z1 := box_at (j := 1) rz.out rfl
      have z2 := box_at (j := 2) rz.out rfl
      have z3 := box_at (j := 3) rz.out rfl
      have z4 := box_at (j := 4) rz.out rfl
      refine ⟨rfl, _, by simp [results, Tryz.results11, go_sem, z0, z1, z2, z3, z4] <;> exact ⟨rfl, rfl⟩, [.int .i64 0, .int .i64 0, .string ⟨#[]⟩, .slice none 0 0, .slice none 0 0], rfl, hbz.out, ?_⟩
      exact rd_zeroP
     | some y' =>
      rw [getP_step hL.symm] at hRs
      have hsy' := hid (hsy.out.part (leads_part hL.symm))
      obtain ⟨xk, xn, xt, xl, xfn, xfv⟩ := y'
      obtain ⟨ya, yc, za, zc, rfl, _⟩ := hr4.inv
      replace hRs := hid hRs
      replace hr4 := hid hr4
      clear hL hsy
      have b0 := box_at (j := 0) q0.out rfl
      have b1 := box_at (j := 1) q0.out rfl
      have b2 := box_at (j := 2) q0.out rfl
      have b3 := box_at (j := 3) q0.out rfl
      have b4 := box_at (j := 4) q0.out rfl
      have g0 := box_free q0.out
      go_upto_region 9 with fail
      clear b0 b1 b2 b3 b4
      clear g0
      have hbz := hid (set5_below hb.out (Nat.le_refl _) (.int .i64 xk) (.int .i64 xn) (.string xt) (.slice ya xl.length yc) (.slice za xfv.length zc))
      have rz := hid (set5_box (u0 := .int .i64 xk) (u1 := .int .i64 xn) (u2 := .string xt) (u3 := .slice ya xl.length yc) (u4 := .slice za xfv.length zc) q0.out)
      have hkp := hid (fun b (hb : b ≠ w.heap.size) => set5_other w4 (w.heap.size) (.int .i64 xk) (.int .i64 xn) (.string xt) (.slice ya xl.length yc) (.slice za xfv.length zc) (b := b) hb)
      have hsz9 := hid (set5_size w4 (w.heap.size) (.int .i64 xk) (.int .i64 xn) (.string xt) (.slice ya xl.length yc) (.slice za xfv.length zc))
      unfold set5 at hbz rz hkp hsz9
      generalize ((((w4.setCell ⟨w.heap.size, 0, none⟩ (.int .i64 xk)).setCell ⟨w.heap.size, 1, none⟩ (.int .i64 xn)).setCell ⟨w.heap.size, 2, none⟩ (.string xt)).setCell ⟨w.heap.size, 3, none⟩ (.slice ya xl.length yc)).setCell ⟨w.heap.size, 4, none⟩ (.slice za xfv.length zc) = w5 at *
      have q15 := hid ((hkp.out (w.heap.size + 1) (by omega)).trans q1.out)
      have hr5 := hid (hr4.out.keep (S' := Now w) (fun _ h => h) (fun b hb' => hkp.out b (Nat.ne_of_lt hb')))
      have hsr5 := hid (hsr4.out.keep (S' := From W0.heap.size w2) (fun _ h => h) (fun b hb' => hkp.out b (fun e => by have h1 := hb'.1; have h2 := hW0s.out; omega)))
      have hwz5 := hid (show w2.heap.size ≤ w5.heap.size by rw [hsz9.out]; exact hwz.out)
      clear hkp hsz9 q0 q1 hr4 hsr4 hwz
      go_wp2_with fail
      go_roundg (ss.length - (j + 1))
      case measure => omega
      case rel => exact ⟨j + 1, _, _, _, _, _, _, by omega, by go_num, hsy'.out, hRs.out, rz.out, hr5.out, q15.out, hsr5.out, hwz5.out, hbz.out⟩
    ·have hdn : ss.drop j = [] := List.drop_eq_nil_of_le (by omega)
     have hRs := hRy.out
     rw [hdn, getP_nil] at hRs
     subst hRs
     have hcp := hid (hcopy.out _ _ _ (hy.out.keep (S' := Now wr) (fun b hb' => Nat.lt_of_lt_of_le hb' hb.out.size) (fun _ _ => rfl)))
     unfold Copied at hcp
     have hwrs := hid (show w.heap.size + 2 ≤ wr.heap.size from by have := lt_of_block q1.out; omega)
     clear hy hsr hRy hdn hwz hsy
     have b0 := box_at (j := 0) q0.out rfl
     have b1 := box_at (j := 1) q0.out rfl
     have b2 := box_at (j := 2) q0.out rfl
     have b3 := box_at (j := 3) q0.out rfl
     have b4 := box_at (j := 4) q0.out rfl
     go_wp2_with fail
     clear b0 b1 b2 b3 b4
     refine hcp.out.mono ?_
     rintro e w4 ⟨cs4, rfl, hr4, h4⟩
     obtain ⟨ya, yc, za, zc, rfl, _⟩ := hr4.inv
     replace hb := hid (hb.out.step h4)
     replace q1 := hid ((h4.block _ (lt_of_block q1.out)).trans q1.out)
     clear h4 hcp q0
     have c0 := box_at (j := 0) q1.out rfl
     have c1 := box_at (j := 1) q1.out rfl
     have c2 := box_at (j := 2) q1.out rfl
     have c3 := box_at (j := 3) q1.out rfl
     have c4 := box_at (j := 4) q1.out rfl
     have f0 := box_free q1.out
     go_wp2_with fail
     clear c0 c1 c2 c3 c4
     clear f0
     have hbz := hid (set5_below hb.out (Nat.le_succ _) (.int .i64 yk) (.int .i64 yn) (.string ys) (.slice ya yl.length yc) (.slice za yfv.length zc))
     have rz := hid (set5_box (u0 := .int .i64 yk) (u1 := .int .i64 yn) (u2 := .string ys) (u3 := .slice ya yl.length yc) (u4 := .slice za yfv.length zc) q1.out)
     have hkp := hid (fun b (hb : b ≠ w.heap.size + 1) => set5_other w4 (w.heap.size + 1) (.int .i64 yk) (.int .i64 yn) (.string ys) (.slice ya yl.length yc) (.slice za yfv.length zc) (b := b) hb)
     have hsz9 := hid (set5_size w4 (w.heap.size + 1) (.int .i64 yk) (.int .i64 yn) (.string ys) (.slice ya yl.length yc) (.slice za yfv.length zc))
     unfold set5 at hbz rz hkp hsz9
     generalize ((((w4.setCell ⟨w.heap.size + 1, 0, none⟩ (.int .i64 yk)).setCell ⟨w.heap.size + 1, 1, none⟩ (.int .i64 yn)).setCell ⟨w.heap.size + 1, 2, none⟩ (.string ys)).setCell ⟨w.heap.size + 1, 3, none⟩ (.slice ya yl.length yc)).setCell ⟨w.heap.size + 1, 4, none⟩ (.slice za yfv.length zc) = w9 at *
     have z0 := box_at (j := 0) rz.out rfl
     have z1 := box_at (j := 1) rz.out rfl
     have z2 := box_at (j := 2) rz.out rfl
     have z3 := box_at (j := 3) rz.out rfl
     have z4 := box_at (j := 4) rz.out rfl
     refine ⟨rfl, _, by simp [results, Tryz.results11, go_sem, z0, z1, z2, z3, z4] <;> exact ⟨rfl, rfl⟩, [.int .i64 yk, .int .i64 yn, .string ys, .slice ya yl.length yc, .slice za yfv.length zc], rfl, hbz.out, ?_⟩
     refine hr4.keep (fun b hb' => ⟨⟨by have := hb'.1.1; have := hwrs.out; omega, by rw [hsz9.out]; exact hb'.1.2⟩, fun off => ?_⟩) (fun b hb' => hkp.out b (by have := hb'.1.1; have := hwrs.out; omega))
     rw [← hb'.2 off]
     unfold World.frozen?
     rw [hkp.out b (by have := hb'.1.1; have := hwrs.out; omega)]
  ·have hR2 : R = none := by have := hR.out; rw [if_pos hG] at this; exact this
   subst hR2
   have hgi : (G != 0) = true := by simp [hG]
   clear hR hso hV0 hss3
   have c0 := box_at (j := 0) r1.out rfl
   have c1 := box_at (j := 1) r1.out rfl
   have c2 := box_at (j := 2) r1.out rfl
   have c3 := box_at (j := 3) r1.out rfl
   have c4 := box_at (j := 4) r1.out rfl
   have f0 := box_free r1.out
   go_wp2_with fail
   clear c0 c1 c2 c3 c4
   clear f0
   have hbz := hid (set5_below D.out (Nat.le_succ _) (.int .i64 0) (.int .i64 0) (.string ⟨#[]⟩) (.slice none 0 0) (.slice none 0 0))
   have rz := hid (set5_box (u0 := .int .i64 0) (u1 := .int .i64 0) (u2 := .string ⟨#[]⟩) (u3 := .slice none 0 0) (u4 := .slice none 0 0) r1.out)
   have hkp := hid (fun b (hb : b ≠ w.heap.size + 1) => set5_other w3 (w.heap.size + 1) (.int .i64 0) (.int .i64 0) (.string ⟨#[]⟩) (.slice none 0 0) (.slice none 0 0) (b := b) hb)
   have hsz9 := hid (set5_size w3 (w.heap.size + 1) (.int .i64 0) (.int .i64 0) (.string ⟨#[]⟩) (.slice none 0 0) (.slice none 0 0))
   unfold set5 at hbz rz hkp hsz9
   generalize ((((w3.setCell ⟨w.heap.size + 1, 0, none⟩ (.int .i64 0)).setCell ⟨w.heap.size + 1, 1, none⟩ (.int .i64 0)).setCell ⟨w.heap.size + 1, 2, none⟩ (.string ⟨#[]⟩)).setCell ⟨w.heap.size + 1, 3, none⟩ (.slice none 0 0)).setCell ⟨w.heap.size + 1, 4, none⟩ (.slice none 0 0) = w9 at *
   have z0 := box_at (j := 0) rz.out rfl
   have z1 := box_at (j := 1) rz.out rfl
   have z2 := box_at (j := 2) rz.out rfl
   have z3 := box_at (j := 3) rz.out rfl
   have z4 := box_at (j := 4) rz.out rfl
   refine ⟨rfl, _, by simp [results, Tryz.results11, go_sem, z0, z1, z2, z3, z4] <;> exact ⟨rfl, rfl⟩, [.int .i64 0, .int .i64 0, .string ⟨#[]⟩, .slice none 0 0, .slice none 0 0], rfl, hbz.out, ?_⟩
   exact rd_zeroP
end Go.Proofs.YthjihdpleclejaaGreatDoor
namespace Go.Proofs.YthjihdpleclejaaGreatDoor
open Go.RowKit Go.Proofs
def findV (nm : ByteArray) (v : PVal) : Option PVal := if v.k = 6 then findP nm v.fn v.fv else none
theorem drop_at' {α : Type} {l : List α} {j : Nat} {x : α} (h : l[j]? = some x) : l.drop j = x :: l.drop (j + 1) := by
 obtain ⟨h1, h2⟩ := List.getElem?_eq_some_iff.1 h
 rw [List.drop_eq_getElem_cons h1, h2]
set_option maxRecDepth 100000 in
set_option maxHeartbeats 4000000 in
theorem rfind_calls (nm : ByteArray) {w : World} {V : PVal} {cs : List Value} {S : Nat → Prop} (hS : ∀ b, S b → Now w b) (hV : Rd w S V cs) :
  Calls Tryz.prog 65 #[.agg cs.toArray, .string nm] w (Stepd (findV nm V) S w) := by
 have hV0 := hid hV
 have hS0 := hid hS
 unfold findV Stepd
 obtain ⟨R, hR⟩ : ∃ R, R = if V.k = 6 then findP nm V.fn V.fv else none := ⟨_, rfl⟩
 rw [← hR]
 replace hR := hid hR
 obtain ⟨k, n, str, l, fn, fv⟩ := V
 obtain ⟨la, lc, fa, fc, rfl, _, _, _, _, _, _, hfm, hL, hF⟩ := hV.inv
 replace hF := hid hF
 have hfl := hid hfm.2
 clear hV hfm hL hS
 obtain ⟨W0, hW0⟩ : ∃ W0, W0 = (w.alloc (.cells #[.int .i64 k, .int .i64 n, .string str, .slice la l.length lc, .slice fa fv.length fc] 25)).alloc (.cells #[.int .i64 0, .int .i64 0, .string ⟨#[]⟩, .slice none 0 0, .slice none 0 0] 25) := ⟨_, rfl⟩
 have D : Hid (Below w.heap.size w W0) := by show Below _ _ _; rw [hW0]; exact (below_new _ _).step (below_new _ _)
 have r0 : Hid (W0.heap[w.heap.size]? = some (.cells #[.int .i64 k, .int .i64 n, .string str, .slice la l.length lc, .slice fa fv.length fc] 25 (0, 0))) := by show _ = _; rw [hW0]; exact al_old (al_at rfl)
 have r1 : Hid (W0.heap[w.heap.size + 1]? = some (.cells #[.int .i64 0, .int .i64 0, .string ⟨#[]⟩, .slice none 0 0, .slice none 0 0] 25 (0, 0))) := by show _ = _; rw [hW0]; exact al_at (by simp)
 have b0 := box_at (j := 0) r0.out rfl
 have b1 := box_at (j := 1) r0.out rfl
 have b2 := box_at (j := 2) r0.out rfl
 have b3 := box_at (j := 3) r0.out rfl
 have b4 := box_at (j := 4) r0.out rfl
 have c0 := box_at (j := 0) r1.out rfl
 have c1 := box_at (j := 1) r1.out rfl
 have c2 := box_at (j := 2) r1.out rfl
 have c3 := box_at (j := 3) r1.out rfl
 have c4 := box_at (j := 4) r1.out rfl
 have f0 := box_free r1.out
 by_cases hk : k = 6
 ·subst hk
  have hR2 : R = findP nm fn fv := by have := hR.out; exact this.trans (if_pos rfl)
  replace hR2 := hid hR2
  clear hR
  go_enter Tryz.func65, Tryz.ntmps65
  go_upto_region 1 with fail
  rw [← hW0]
  clear hW0
  go_wp2_with fail
  go_loopg [6] fv.length (fun g i wr => ∃ j : Nat, g + j = fv.length ∧ i = .int .i64 j ∧ R = findP nm (fn.drop j) (fv.drop j) ∧ wr = W0)
  case atStart => exact ⟨0, by omega, rfl, hR2.out, rfl⟩
  case round =>
   obtain ⟨j, hg, rfl, hRj, rfl⟩ := hrel
   replace hRj := hid hRj
   by_cases hlt : j < fv.length
   ·obtain ⟨x, hx⟩ : ∃ x, fv[j]? = some x := ⟨_, List.getElem?_eq_getElem hlt⟩
    obtain ⟨a, ha⟩ : ∃ a, fn[j]? = some a := ⟨_, List.getElem?_eq_getElem (by rw [hF.out.1]; exact hlt)⟩
    have hlti : (j : Int) < (fv.length : Int) := by omega
    obtain ⟨b, off, cs, rfl, hSb, hcell, hrd, _⟩ := RdF.at_ hF.out ha hx
    obtain ⟨xk, xn, xt, xl, xfn, xfv⟩ := x
    obtain ⟨ya, yc, za, zc, rfl, _⟩ := hrd.inv
    have hbb := hS0.out b hSb
    obtain ⟨e0, e1, e2, e3, e4, e5⟩ := six hcell
    replace e0 := (D.out.cell (p := ⟨b, _, none⟩) hbb).trans e0
    replace e1 := (D.out.cell (p := ⟨b, _, none⟩) hbb).trans e1
    replace e2 := (D.out.cell (p := ⟨b, _, none⟩) hbb).trans e2
    replace e3 := (D.out.cell (p := ⟨b, _, none⟩) hbb).trans e3
    replace e4 := (D.out.cell (p := ⟨b, _, none⟩) hbb).trans e4
    replace e5 := (D.out.cell (p := ⟨b, _, none⟩) hbb).trans e5
    have hdn : fn.drop j = a :: fn.drop (j + 1) := drop_at' ha
    have hdv : fv.drop j = .mk xk xn xt xl xfn xfv :: fv.drop (j + 1) := drop_at' hx
    have hRs := hRj.out
    rw [hdn, hdv, findP] at hRs
    replace hrd := hid hrd
    have ew : IntKind.i64.wrap ((j : Int) + 1) = (j : Int) + 1 := by have := hfl.out; rw [IntWalk.i64_in _ (by omega)]
    clear hcell hSb hdn hdv hRj hx ha
    by_cases hq : a = nm
    ·subst hq
     rw [if_pos rfl] at hRs
     subst hRs
     go_wp2_with fail
     clear e0 e1 e2 e3 e4 e5
     clear b0 b1 b2 b3 b4
     clear c0 c1 c2 c3 c4
     clear f0
     have hbz := hid (set5_below D.out (Nat.le_succ _) (.int .i64 xk) (.int .i64 xn) (.string xt) (.slice ya xl.length yc) (.slice za xfv.length zc))
     have rz := hid (set5_box (u0 := .int .i64 xk) (u1 := .int .i64 xn) (u2 := .string xt) (u3 := .slice ya xl.length yc) (u4 := .slice za xfv.length zc) r1.out)
     have hkp := hid (fun b (hb : b ≠ w.heap.size + 1) => set5_other wr (w.heap.size + 1) (.int .i64 xk) (.int .i64 xn) (.string xt) (.slice ya xl.length yc) (.slice za xfv.length zc) (b := b) hb)
     have hsz9 := hid (set5_size wr (w.heap.size + 1) (.int .i64 xk) (.int .i64 xn) (.string xt) (.slice ya xl.length yc) (.slice za xfv.length zc))
     unfold set5 at hbz rz hkp hsz9
     generalize ((((wr.setCell ⟨w.heap.size + 1, 0, none⟩ (.int .i64 xk)).setCell ⟨w.heap.size + 1, 1, none⟩ (.int .i64 xn)).setCell ⟨w.heap.size + 1, 2, none⟩ (.string xt)).setCell ⟨w.heap.size + 1, 3, none⟩ (.slice ya xl.length yc)).setCell ⟨w.heap.size + 1, 4, none⟩ (.slice za xfv.length zc) = w9 at *
     have z0 := box_at (j := 0) rz.out rfl
     have z1 := box_at (j := 1) rz.out rfl
     have z2 := box_at (j := 2) rz.out rfl
     have z3 := box_at (j := 3) rz.out rfl
     have z4 := box_at (j := 4) rz.out rfl
     refine ⟨rfl, _, by simp [results, Tryz.results65, go_sem, z0, z1, z2, z3, z4] <;> exact ⟨rfl, rfl⟩, [.int .i64 xk, .int .i64 xn, .string xt, .slice ya xl.length yc, .slice za xfv.length zc], rfl, hbz.out, ?_⟩
     exact hrd.out.keep (fun _ h => h) (fun b hb => (hkp.out b (by have := hS0.out b hb; unfold Now at this; omega)).trans (D.out.block b (hS0.out b hb)))
    ·rw [if_neg hq] at hRs
     have hne := str_ne hq
     replace hRs := hid hRs
     clear hq
     go_wp2_with fail
     go_roundg (fv.length - (j + 1))
     case measure => omega
     case rel => exact ⟨j + 1, by omega, by go_num, hRs.out, rfl⟩
   ·have hlti : ¬ (j : Int) < (fv.length : Int) := by omega
    have hRs := hRj.out
    rw [List.drop_eq_nil_of_le (show fn.length ≤ j by rw [hF.out.1]; omega), findP] at hRs
    subst hRs
    clear hRj
    go_wp2_with fail
    clear b0 b1 b2 b3 b4
    clear c0 c1 c2 c3 c4
    clear f0
    have hbz := hid (set5_below D.out (Nat.le_succ _) (.int .i64 0) (.int .i64 0) (.string ⟨#[]⟩) (.slice none 0 0) (.slice none 0 0))
    have rz := hid (set5_box (u0 := .int .i64 0) (u1 := .int .i64 0) (u2 := .string ⟨#[]⟩) (u3 := .slice none 0 0) (u4 := .slice none 0 0) r1.out)
    have hkp := hid (fun b (hb : b ≠ w.heap.size + 1) => set5_other wr (w.heap.size + 1) (.int .i64 0) (.int .i64 0) (.string ⟨#[]⟩) (.slice none 0 0) (.slice none 0 0) (b := b) hb)
    have hsz9 := hid (set5_size wr (w.heap.size + 1) (.int .i64 0) (.int .i64 0) (.string ⟨#[]⟩) (.slice none 0 0) (.slice none 0 0))
    unfold set5 at hbz rz hkp hsz9
    generalize ((((wr.setCell ⟨w.heap.size + 1, 0, none⟩ (.int .i64 0)).setCell ⟨w.heap.size + 1, 1, none⟩ (.int .i64 0)).setCell ⟨w.heap.size + 1, 2, none⟩ (.string ⟨#[]⟩)).setCell ⟨w.heap.size + 1, 3, none⟩ (.slice none 0 0)).setCell ⟨w.heap.size + 1, 4, none⟩ (.slice none 0 0) = w9 at *
    have z0 := box_at (j := 0) rz.out rfl
    have z1 := box_at (j := 1) rz.out rfl
    have z2 := box_at (j := 2) rz.out rfl
    have z3 := box_at (j := 3) rz.out rfl
    have z4 := box_at (j := 4) rz.out rfl
    refine ⟨rfl, _, by simp [results, Tryz.results65, go_sem, z0, z1, z2, z3, z4] <;> exact ⟨rfl, rfl⟩, [.int .i64 0, .int .i64 0, .string ⟨#[]⟩, .slice none 0 0, .slice none 0 0], rfl, hbz.out, ?_⟩
    exact rd_zeroP
 ·have hki : (k != 6) = true := by simp [hk]
  have hR2 : R = none := by have := hR.out; exact this.trans (if_neg hk)
  subst hR2
  clear hR hk
  go_enter Tryz.func65, Tryz.ntmps65
  go_upto_region 1 with fail
  rw [← hW0]
  clear hW0
  go_wp2_with fail
  clear b0 b1 b2 b3 b4
  clear c0 c1 c2 c3 c4
  clear f0
  have hbz := hid (set5_below D.out (Nat.le_succ _) (.int .i64 0) (.int .i64 0) (.string ⟨#[]⟩) (.slice none 0 0) (.slice none 0 0))
  have rz := hid (set5_box (u0 := .int .i64 0) (u1 := .int .i64 0) (u2 := .string ⟨#[]⟩) (u3 := .slice none 0 0) (u4 := .slice none 0 0) r1.out)
  have hkp := hid (fun b (hb : b ≠ w.heap.size + 1) => set5_other W0 (w.heap.size + 1) (.int .i64 0) (.int .i64 0) (.string ⟨#[]⟩) (.slice none 0 0) (.slice none 0 0) (b := b) hb)
  have hsz9 := hid (set5_size W0 (w.heap.size + 1) (.int .i64 0) (.int .i64 0) (.string ⟨#[]⟩) (.slice none 0 0) (.slice none 0 0))
  unfold set5 at hbz rz hkp hsz9
  generalize ((((W0.setCell ⟨w.heap.size + 1, 0, none⟩ (.int .i64 0)).setCell ⟨w.heap.size + 1, 1, none⟩ (.int .i64 0)).setCell ⟨w.heap.size + 1, 2, none⟩ (.string ⟨#[]⟩)).setCell ⟨w.heap.size + 1, 3, none⟩ (.slice none 0 0)).setCell ⟨w.heap.size + 1, 4, none⟩ (.slice none 0 0) = w9 at *
  have z0 := box_at (j := 0) rz.out rfl
  have z1 := box_at (j := 1) rz.out rfl
  have z2 := box_at (j := 2) rz.out rfl
  have z3 := box_at (j := 3) rz.out rfl
  have z4 := box_at (j := 4) rz.out rfl
  refine ⟨rfl, _, by simp [results, Tryz.results65, go_sem, z0, z1, z2, z3, z4] <;> exact ⟨rfl, rfl⟩, [.int .i64 0, .int .i64 0, .string ⟨#[]⟩, .slice none 0 0, .slice none 0 0], rfl, hbz.out, ?_⟩
  exact rd_zeroP
end Go.Proofs.YthjihdpleclejaaGreatDoor
