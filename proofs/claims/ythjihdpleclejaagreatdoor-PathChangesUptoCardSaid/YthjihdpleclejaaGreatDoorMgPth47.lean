/-
  Walk: the reference's set, at whatever steps. No condition.
  Walk: the reference's Set. No condition.
-/
import Derived.Test.YthjihdpleclejaaGreatDoorMgPth45
import Derived.Test.YthjihdpleclejaaGreatDoorMgPth46
import Derived.Test.YthjihdpleclejaaGreatDoorMgPth40
namespace Go.Proofs.YthjihdpleclejaaGreatDoor
open Go.RowKit Go.Proofs
theorem rset_calls (X0 : PVal) {S : Nat → Prop} : ∀ (ss : List ByteArray) (V : PVal) (w : World) (cs xs : List Value) (sv : Value), (∀ s ∈ ss, s.size ≤ 140737488355328) → V.mass ≤ 100000000000 → (∀ c, S c → c < w.heap.size) → Rd w S V cs → Rd w S X0 xs → StrsAt w (Now w) ss sv →
  Calls Tryz.prog 36 #[.agg cs.toArray, sv, .agg xs.toArray] w (TellR S (setR V ss X0) w)
 | [], V, w, cs, xs, sv, _, _, hS, hV, hx, hss => rset_nil V X0 hS hV hx hss
 | s :: r, V, w, cs, xs, sv, h1, hm, hS, hV, hx, hss => by
  have hz := h1 s (by simp)
  have ih := fun (y : PVal) (hy : y.mass ≤ 100000000000) (w' : World) (ys xs' : List Value) (sv' : Value) a b c d => rset_calls X0 (S := S) r y w' ys xs' sv' (fun t ht => h1 t (by simp [ht])) hy a b c d
  cases hp : place s with
  | some n =>
   by_cases hk : V.k = 5
   ·cases hy : V.l[n]? with
    | none => exact rset_stop V X0 s r hz hS hV hx hss (.inl ⟨n, hp, .inr hy⟩)
    | some y => exact rset_inL V X0 y s r n hz hp hk hy hm hS hV hx hss (ih y (Nat.le_trans (Nat.le_trans (mass_mem (List.mem_of_getElem? hy)) (mass_l V)) hm))
   ·exact rset_stop V X0 s r hz hS hV hx hss (.inl ⟨n, hp, .inl hk⟩)
  | none =>
   by_cases hk : V.k = 6
   ·refine rset_inF V X0 s r hz hp hk hm hS hV hx hss (ih _ ?_)
    cases hf : findP s V.fn V.fv with
    | none => show docE.mass ≤ _; rw [mass_docE]; omega
    | some y => exact Nat.le_trans (parts_mass V y (leads_part (v := V) (s := s) (by rw [leads_name hp, if_pos hk]; exact hf))) hm
   ·exact rset_stop V X0 s r hz hS hV hx hss (.inr ⟨hp, hk⟩)
theorem askS_is {v : PVal} {p : ByteArray} {l : List ByteArray} (h : askS v p = some l) : stepsP p = some l ∧ askR v p = 0 := by
 unfold askS at h
 unfold askR
 by_cases h1 : v.good = 0
 ·rw [if_neg (by simp [h1])] at h
  exact ⟨h, by simp [h1, h]⟩
 ·rw [if_pos h1] at h; cases h
theorem askS_no {v : PVal} {p : ByteArray} (h : askS v p = none) : askR v p ≠ 0 := fun h1 => by
 obtain ⟨_, l, _, h2⟩ := ask_zero h1
 rw [h2] at h; cases h
theorem rset_at {S : Nat → Prop} {V X0 : PVal} {pa : ByteArray} {cs xs : List Value} {l : List ByteArray} (hm : V.mass ≤ 33554432) (hl : askS V pa = some l) {w : World} {sv : Value} (hS : ∀ c, S c → c < w.heap.size) (hV : Rd w S V cs) (hx : Rd w S X0 xs) (hss : StrsAt w (Now w) l sv) :
  Calls Tryz.prog 36 #[.agg cs.toArray, sv, .agg xs.toArray] w (TellR S (setR V l X0) w) :=
 rset_calls X0 l V w cs xs sv (fun s hs => Nat.le_trans ((steps_small (askS_is hl).1).2 s hs) (by decide)) (by omega) hS hV hx hss
end Go.Proofs.YthjihdpleclejaaGreatDoor
namespace Go.Proofs.YthjihdpleclejaaGreatDoor
open Go.RowKit Go.Proofs
set_option maxRecDepth 100000 in
set_option maxHeartbeats 8000000 in
theorem rSet_calls (V X0 : PVal) (hm : V.mass ≤ 33554432) (hmx : X0.mass ≤ 33554432) (pa : ByteArray) (hpa : pa.size ≤ 70368744177664) {w : World} {cs xs : List Value} (hV : Rd w (Now w) V cs) (hx : Rd w (Now w) X0 xs) :
  Calls Tryz.prog 12 #[.agg cs.toArray, .string pa, .agg xs.toArray] w (TellR (Now w) (setP V pa X0) w) := by
 have hF1 : Hid (askR V pa ≠ 0 → setP V pa X0 = (zeroP, askR V pa)) := setR_ask
 have hF2 : Hid (askR V pa = 0 → X0.good ≠ 0 → setP V pa X0 = (zeroP, X0.good)) := setR_also
 have hF3 : Hid (X0.good = 0 → ∀ l, askS V pa = some l → toldR (setR V l X0).1 (setR V l X0).2 = setP V pa X0) := fun h2 l h3 => setR_told hV.fits (askS_is h3).2 h2 (askS_is h3).1
 have has := hid (fun (w' : World) (h : Below w.heap.size w w') => rasked_calls V (by omega) pa hpa (hV.later h))
 have hgd := hid (fun (w' : World) (h : Below w.heap.size w w') => rgood_mass X0 (by omega) w' xs (hx.later h))
 have hst : Hid (∀ (l : List ByteArray) (w' : World) (sv : Value), askS V pa = some l → Below w.heap.size w w' → StrsAt w' (Now w') l sv → Calls Tryz.prog 36 #[.agg cs.toArray, sv, .agg xs.toArray] w' (TellR (Now w) (setR V l X0) w')) := fun l w' sv h1 h2 h3 => rset_at hm h1 (fun c hc => Nat.lt_of_lt_of_le hc h2.size) (hV.keep (fun _ h => h) (fun c hc => h2.block c hc)) (hx.keep (fun _ h => h) (fun c hc => h2.block c hc)) h3
 have hml : Hid (∀ l, askS V pa = some l → (setR V l X0).1.mass ≤ 1073741824) := fun l h => by
  have := rset_mass (v := V) (x := X0) (p := pa) (l := l) (M := 33554432) hV.fits (ask_zero (askS_is h).2).1 (askS_is h).1 (by omega) hm hmx
  omega
 have hN : Hid (askS V pa = none → askR V pa ≠ 0) := askS_no
 have hA : Hid (∀ l, askS V pa = some l → askR V pa = 0) := fun l h => (askS_is h).2
 obtain ⟨TR, hTR⟩ : ∃ R, R = setP V pa X0 := ⟨_, rfl⟩
 rw [← hTR] at hF1 hF2 hF3 ⊢
 obtain ⟨AS, hAS⟩ : ∃ R, R = askS V pa := ⟨_, rfl⟩
 rw [← hAS] at hF3 has hst hml hN hA
 obtain ⟨AR, hAR⟩ : ∃ R, R = askR V pa := ⟨_, rfl⟩
 rw [← hAR] at hF1 hF2 has hN hA
 obtain ⟨GX, hGX⟩ : ∃ R, R = X0.good := ⟨_, rfl⟩
 rw [← hGX] at hF2 hF3 hgd
 clear hTR hAS hAR hGX
 unfold TellR at hst ⊢
 unfold AskedR at has
 obtain ⟨vk, vn, vt, va, vl, vc, vf, vm, vg, rfl⟩ := hV.five
 obtain ⟨uk, un, ut, ua, ul, uc, uf, um, ug, rfl⟩ := hx.five
 clear hV hx hm hmx hpa
 obtain ⟨W0, hW0⟩ : ∃ W0, W0 = ((w.alloc (.cells #[.int .i64 vk, .int .i64 vn, .string vt, .slice va vl vc, .slice vf vm vg] 25)).alloc (.cells #[.int .i64 uk, .int .i64 un, .string ut, .slice ua ul uc, .slice uf um ug] 25)).alloc (.cells #[.int .i64 0, .int .i64 0, .string ⟨#[]⟩, .slice none 0 0, .slice none 0 0] 25) := ⟨_, rfl⟩
 have D : Hid (Below w.heap.size w W0) := by show Below _ _ _; rw [hW0]; exact (((below_new _ _).step (below_new _ _)).step (below_new _ _))
 have r0 : Hid (W0.heap[w.heap.size]? = some (.cells #[.int .i64 vk, .int .i64 vn, .string vt, .slice va vl vc, .slice vf vm vg] 25 (0, 0))) := by show _ = _; rw [hW0]; exact (al_old (al_old (al_at rfl)))
 have r1 : Hid (W0.heap[w.heap.size + 1]? = some (.cells #[.int .i64 uk, .int .i64 un, .string ut, .slice ua ul uc, .slice uf um ug] 25 (0, 0))) := by show _ = _; rw [hW0]; exact (al_old (al_at (by simp)))
 have r2 : Hid (W0.heap[w.heap.size + 2]? = some (.cells #[.int .i64 0, .int .i64 0, .string ⟨#[]⟩, .slice none 0 0, .slice none 0 0] 25 (0, 0))) := by show _ = _; rw [hW0]; exact (al_at (by simp))
 have hW0s : Hid (w.heap.size + 2 < W0.heap.size) := lt_of_block r2.out
 go_enter Tryz.func12, Tryz.ntmps12
 go_upto_region 1 with fail
 rw [← hW0]
 clear hW0
 have a0_0 := box_at (j := 0) r0.out rfl
 have a0_1 := box_at (j := 1) r0.out rfl
 have a0_2 := box_at (j := 2) r0.out rfl
 have a0_3 := box_at (j := 3) r0.out rfl
 have a0_4 := box_at (j := 4) r0.out rfl
 go_wp2_with fail
 refine (has.out _ D.out).mono ?_
 rintro e w1 ⟨h1, hres⟩
 clear a0_0 a0_1 a0_2 a0_3 a0_4
 have N := hid h1
 clear h1
 replace D := hid (D.out.step N.out)
 replace r0 := hid ((N.out.block _ (lt_of_block r0.out)).trans r0.out)
 replace r1 := hid ((N.out.block _ (lt_of_block r1.out)).trans r1.out)
 replace r2 := hid ((N.out.block _ (lt_of_block r2.out)).trans r2.out)
 clear N
 cases AS with
 | none =>
  obtain rfl := hres
  have hA0 := hN.out rfl
  obtain rfl := hF1.out hA0
  have hAi : (AR == 0) = false := by simp [hA0]
  have hAj : (AR != 0) = true := by simp [hA0]
  clear hF1 hF2 hF3 hN hA hst hml hgd hA0 has
  have c0 := box_at (j := 0) r2.out rfl
  have c1 := box_at (j := 1) r2.out rfl
  have c2 := box_at (j := 2) r2.out rfl
  have c3 := box_at (j := 3) r2.out rfl
  have c4 := box_at (j := 4) r2.out rfl
  have f0 := box_free r2.out
  go_wp2_with fail
  clear c0 c1 c2 c3 c4
  clear f0
  have hbz := hid (set5_below D.out (Nat.le_add_right w.heap.size 2) (.int .i64 0) (.int .i64 0) (.string ⟨#[]⟩) (.slice none 0 0) (.slice none 0 0))
  have rz := hid (set5_box (u0 := .int .i64 0) (u1 := .int .i64 0) (u2 := .string ⟨#[]⟩) (u3 := .slice none 0 0) (u4 := .slice none 0 0) r2.out)
  have hkp := hid (fun bq (hb : bq ≠ w.heap.size + 2) => set5_other w1 (w.heap.size + 2) (.int .i64 0) (.int .i64 0) (.string ⟨#[]⟩) (.slice none 0 0) (.slice none 0 0) (b := bq) hb)
  have hsz9 := hid (set5_size w1 (w.heap.size + 2) (.int .i64 0) (.int .i64 0) (.string ⟨#[]⟩) (.slice none 0 0) (.slice none 0 0))
  unfold set5 at hbz rz hkp hsz9
  generalize ((((w1.setCell ⟨w.heap.size + 2, 0, none⟩ (.int .i64 0)).setCell ⟨w.heap.size + 2, 1, none⟩ (.int .i64 0)).setCell ⟨w.heap.size + 2, 2, none⟩ (.string ⟨#[]⟩)).setCell ⟨w.heap.size + 2, 3, none⟩ (.slice none 0 0)).setCell ⟨w.heap.size + 2, 4, none⟩ (.slice none 0 0) = w9 at *
  have z0 := box_at (j := 0) rz.out rfl
  have z1 := box_at (j := 1) rz.out rfl
  have z2 := box_at (j := 2) rz.out rfl
  have z3 := box_at (j := 3) rz.out rfl
  have z4 := box_at (j := 4) rz.out rfl
  refine ⟨rfl, _, by simp [results, Tryz.results12, go_sem, z0, z1, z2, z3, z4] <;> exact ⟨rfl, rfl⟩, [.int .i64 0, .int .i64 0, .string ⟨#[]⟩, .slice none 0 0, .slice none 0 0], rfl, hbz.out, ?_⟩
  exact rd_zeroP
 | some l =>
  obtain ⟨sv, rfl, hss⟩ := hres
  obtain rfl := hA.out l rfl
  have hs1 := hid (StrsAt.keep hss (S' := Now w1) (fun c h => h.2) (fun _ _ => rfl))
  clear hss hF1 has hN hA
  have a1_0 := box_at (j := 0) r1.out rfl
  have a1_1 := box_at (j := 1) r1.out rfl
  have a1_2 := box_at (j := 2) r1.out rfl
  have a1_3 := box_at (j := 3) r1.out rfl
  have a1_4 := box_at (j := 4) r1.out rfl
  go_wp2_with fail
  refine (hgd.out _ D.out).mono ?_
  rintro e w2 ⟨rfl, h2⟩
  clear a1_0 a1_1 a1_2 a1_3 a1_4
  replace hs1 := hid (hs1.out.later h2)
  have N := hid h2
  clear h2
  replace D := hid (D.out.step N.out)
  replace r0 := hid ((N.out.block _ (lt_of_block r0.out)).trans r0.out)
  replace r1 := hid ((N.out.block _ (lt_of_block r1.out)).trans r1.out)
  replace r2 := hid ((N.out.block _ (lt_of_block r2.out)).trans r2.out)
  clear N
  by_cases hG0 : GX = 0
  ·subst hG0
   clear hF2 hgd
   have hz2 := hid (lt_of_block r2.out)
   have a0_0 := box_at (j := 0) r0.out rfl
   have a0_1 := box_at (j := 1) r0.out rfl
   have a0_2 := box_at (j := 2) r0.out rfl
   have a0_3 := box_at (j := 3) r0.out rfl
   have a0_4 := box_at (j := 4) r0.out rfl
   have a1_0 := box_at (j := 0) r1.out rfl
   have a1_1 := box_at (j := 1) r1.out rfl
   have a1_2 := box_at (j := 2) r1.out rfl
   have a1_3 := box_at (j := 3) r1.out rfl
   have a1_4 := box_at (j := 4) r1.out rfl
   go_wp2_with fail
   refine (hst.out l _ _ rfl D.out hs1.out).mono ?_
   rintro e w3 ⟨cs3, rfl, h3, hr3⟩
   clear a0_0 a0_1 a0_2 a0_3 a0_4
   clear a1_0 a1_1 a1_2 a1_3 a1_4
   have N := hid h3
   clear h3
   replace D := hid (D.out.step N.out)
   replace r0 := hid ((N.out.block _ (lt_of_block r0.out)).trans r0.out)
   replace r1 := hid ((N.out.block _ (lt_of_block r1.out)).trans r1.out)
   replace r2 := hid ((N.out.block _ (lt_of_block r2.out)).trans r2.out)
   clear N
   have hz3 := hid (lt_of_block r2.out)
   have htd := hid (rtold_calls (S := fun c => Now w c ∨ From w2.heap.size w3 c) (setR V l X0).1 (hml.out l rfl) (setR V l X0).2 (fun c h => h.elim (fun h => by unfold Now at h; have := hz3.out; omega) (fun h => h.2)) hr3)
   have hR := hF3.out (by simp) l rfl
   rw [hR] at htd
   clear hR hF3 hml hst
   generalize setR V l X0 = Q at *
   obtain ⟨qv, qe⟩ := Q
   obtain ⟨qk, qn, qt, qa, ql, qc, qf, qm, qg, rfl⟩ := hr3.five
   simp only at htd ⊢
   clear hr3
   go_wp2_with fail
   unfold TellR at htd
   refine htd.out.mono ?_
   rintro e w4 ⟨cs4, rfl, h4, hr4⟩
   obtain ⟨zk, zn, zt, za, zl, zc, zf, zm, zg, rfl⟩ := hr4.five
   replace hr4 := hid hr4
   clear htd
   have hs34 := hid h4.size
   have N := hid h4
   clear h4
   replace D := hid (D.out.step N.out)
   replace r0 := hid ((N.out.block _ (lt_of_block r0.out)).trans r0.out)
   replace r1 := hid ((N.out.block _ (lt_of_block r1.out)).trans r1.out)
   replace r2 := hid ((N.out.block _ (lt_of_block r2.out)).trans r2.out)
   clear N
   have c0 := box_at (j := 0) r2.out rfl
   have c1 := box_at (j := 1) r2.out rfl
   have c2 := box_at (j := 2) r2.out rfl
   have c3 := box_at (j := 3) r2.out rfl
   have c4 := box_at (j := 4) r2.out rfl
   have f0 := box_free r2.out
   go_wp2_with fail
   clear c0 c1 c2 c3 c4
   clear f0
   have hbz := hid (set5_below D.out (Nat.le_add_right w.heap.size 2) (.int .i64 zk) (.int .i64 zn) (.string zt) (.slice za zl zc) (.slice zf zm zg))
   have rz := hid (set5_box (u0 := .int .i64 zk) (u1 := .int .i64 zn) (u2 := .string zt) (u3 := .slice za zl zc) (u4 := .slice zf zm zg) r2.out)
   have hkp := hid (fun bq (hb : bq ≠ w.heap.size + 2) => set5_other w4 (w.heap.size + 2) (.int .i64 zk) (.int .i64 zn) (.string zt) (.slice za zl zc) (.slice zf zm zg) (b := bq) hb)
   have hsz9 := hid (set5_size w4 (w.heap.size + 2) (.int .i64 zk) (.int .i64 zn) (.string zt) (.slice za zl zc) (.slice zf zm zg))
   unfold set5 at hbz rz hkp hsz9
   generalize ((((w4.setCell ⟨w.heap.size + 2, 0, none⟩ (.int .i64 zk)).setCell ⟨w.heap.size + 2, 1, none⟩ (.int .i64 zn)).setCell ⟨w.heap.size + 2, 2, none⟩ (.string zt)).setCell ⟨w.heap.size + 2, 3, none⟩ (.slice za zl zc)).setCell ⟨w.heap.size + 2, 4, none⟩ (.slice zf zm zg) = w9 at *
   have z0 := box_at (j := 0) rz.out rfl
   have z1 := box_at (j := 1) rz.out rfl
   have z2 := box_at (j := 2) rz.out rfl
   have z3 := box_at (j := 3) rz.out rfl
   have z4 := box_at (j := 4) rz.out rfl
   refine ⟨rfl, _, by simp [results, Tryz.results12, go_sem, z0, z1, z2, z3, z4] <;> exact ⟨rfl, rfl⟩, [.int .i64 zk, .int .i64 zn, .string zt, .slice za zl zc, .slice zf zm zg], rfl, hbz.out, ?_⟩
   have e9 := hsz9.out
   have e2 := hz2.out
   have e3 := hz3.out
   have e4 := hs34.out
   exact hr4.out.keep (fun c h => h.elim (fun h => h.imp id (fun h => ⟨by have := h.1; omega, by have := h.2; omega⟩)) (fun h => .inr ⟨by have := h.1; omega, by have := h.2; omega⟩)) (fun c h => hkp.out c (h.elim (fun h => h.elim (fun h => by unfold Now at h; omega) (fun h => by have := h.1; omega)) (fun h => by have := h.1; omega)))
  ·have hGi : (GX != 0) = true := by simp [hG0]
   obtain rfl := hF2.out (by simp) hG0
   clear hF2 hF3 hst hml hgd hs1
   have c0 := box_at (j := 0) r2.out rfl
   have c1 := box_at (j := 1) r2.out rfl
   have c2 := box_at (j := 2) r2.out rfl
   have c3 := box_at (j := 3) r2.out rfl
   have c4 := box_at (j := 4) r2.out rfl
   have f0 := box_free r2.out
   go_wp2_with fail
   clear c0 c1 c2 c3 c4
   clear f0
   have hbz := hid (set5_below D.out (Nat.le_add_right w.heap.size 2) (.int .i64 0) (.int .i64 0) (.string ⟨#[]⟩) (.slice none 0 0) (.slice none 0 0))
   have rz := hid (set5_box (u0 := .int .i64 0) (u1 := .int .i64 0) (u2 := .string ⟨#[]⟩) (u3 := .slice none 0 0) (u4 := .slice none 0 0) r2.out)
   have hkp := hid (fun bq (hb : bq ≠ w.heap.size + 2) => set5_other w2 (w.heap.size + 2) (.int .i64 0) (.int .i64 0) (.string ⟨#[]⟩) (.slice none 0 0) (.slice none 0 0) (b := bq) hb)
   have hsz9 := hid (set5_size w2 (w.heap.size + 2) (.int .i64 0) (.int .i64 0) (.string ⟨#[]⟩) (.slice none 0 0) (.slice none 0 0))
   unfold set5 at hbz rz hkp hsz9
   generalize ((((w2.setCell ⟨w.heap.size + 2, 0, none⟩ (.int .i64 0)).setCell ⟨w.heap.size + 2, 1, none⟩ (.int .i64 0)).setCell ⟨w.heap.size + 2, 2, none⟩ (.string ⟨#[]⟩)).setCell ⟨w.heap.size + 2, 3, none⟩ (.slice none 0 0)).setCell ⟨w.heap.size + 2, 4, none⟩ (.slice none 0 0) = w9 at *
   have z0 := box_at (j := 0) rz.out rfl
   have z1 := box_at (j := 1) rz.out rfl
   have z2 := box_at (j := 2) rz.out rfl
   have z3 := box_at (j := 3) rz.out rfl
   have z4 := box_at (j := 4) rz.out rfl
   refine ⟨rfl, _, by simp [results, Tryz.results12, go_sem, z0, z1, z2, z3, z4] <;> exact ⟨rfl, rfl⟩, [.int .i64 0, .int .i64 0, .string ⟨#[]⟩, .slice none 0 0, .slice none 0 0], rfl, hbz.out, ?_⟩
   exact rd_zeroP
end Go.Proofs.YthjihdpleclejaaGreatDoor
