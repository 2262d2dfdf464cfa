/-
  Walk: the reference's Push. No condition.
-/
import Derived.Test.YthjihdpleclejaaGreatDoorMgPth47
import Derived.Test.YthjihdpleclejaaGreatDoorMgPth32
namespace Go.Proofs.YthjihdpleclejaaGreatDoor
open Go.RowKit Go.Proofs
theorem tell_keep {w w' w9 : World} {S : Nat → Prop} {g : Nat} {V : PVal} {cs : List Value} (h : Rd w' S V cs) (hS : ∀ c, S c → Now w c ∨ (g < c ∧ c < w'.heap.size)) (hg : w.heap.size ≤ g) (hk : ∀ b, b ≠ g → w9.heap[b]? = w'.heap[b]?) (hz : w9.heap.size = w'.heap.size) : Rd w9 (fun c => Now w c ∨ From w.heap.size w9 c) V cs :=
 h.keep (fun c hc => (hS c hc).imp id (fun hc => ⟨by omega, by rw [hz]; exact hc.2⟩)) (fun c hc => hk c (by
  rcases hS c hc with h1 | h1
  ·unfold Now at h1; omega
  ·omega))
theorem run_append_any {P : Program} (w : World) (base : Nat) (t ty e : TypeId) (i : TypeInfo) (z : Value) (size bytes : Nat) (ht : P.underlying t = some (.slice e)) (hi : P.info? e = some i) (hz : i.zero = some z)
  (hsize : i.size = size) (hby : i.bytes = bytes) (hzs : z.cells.size = size) (hsz : 0 < size)
  (ao : Option Addr) (m c : Nat) (news : List Value) (hl : news.length = m * size) (hnone : ao = none → m = 0) (hnews : ∀ ad, ao = some ad → ∀ j u, news[j]? = some u → w.cell? (ad.add j) = some u) (h1 : ∀ u ∈ news, u.oneCell' = true)
  (h63 : m ≤ maxLen) (hbytes : m * bytes ≤ 140737488355328) (hbase : base ≤ w.heap.size) :
  ∃ v' w', (Builtin.append_ #[t, t] ty #[.slice none 0 0, .slice ao m c]).run P w = .ok v' w' ∧ w'.ownsRow base e size v' m news ∧ Below w.heap.size w w' := by
 cases ao with
 | none =>
  obtain rfl := hnone rfl
  obtain rfl : news = [] := List.eq_nil_of_length_eq_zero (by simpa using hl)
  exact ⟨.slice none 0 0, w, by simp [Builtin.append_, run_underlying ht, sizeOf, typeInfo, hi, Builtin.lenOf, Builtin.firstCells], World.ownsRow_nil _ _ _ _, Below.refl _ _⟩
 | some ad =>
  obtain ⟨v', w', h2, h3, h4, _⟩ := run_append_own w base t ty e i z size bytes ht hi hz hsize hby hzs hsz (.slice none 0 0) 0 [] (World.ownsRow_nil _ _ _ _) ad m c news hl (hnews ad rfl) h1 (by omega) (by rw [Nat.zero_add]; exact hbytes) hbase
  rw [Nat.zero_add, List.nil_append] at h3
  exact ⟨v', w', h2, h3, grown_below h4⟩
def RpS (gy go bx : Nat) (L x0 x1 x2 x3 x4 : Value) (x : World) : Prop := x.cell? ⟨gy, 3, none⟩ = some (.slice none 0 0) ∧ x.cell? ⟨go, 3, none⟩ = some L ∧ x.cell? ⟨bx, 0, none⟩ = some x0 ∧ x.cell? ⟨bx, 1, none⟩ = some x1 ∧ x.cell? ⟨bx, 2, none⟩ = some x2 ∧ x.cell? ⟨bx, 3, none⟩ = some x3 ∧ x.cell? ⟨bx, 4, none⟩ = some x4
set_option maxRecDepth 100000 in
set_option maxHeartbeats 16000000 in
theorem rPush_calls (V X0 : PVal) (hm : V.mass ≤ 33554432) (hmx : X0.mass ≤ 33554432) (pa : ByteArray) (hpa : pa.size ≤ 70368744177664) {w : World} {cs xs : List Value} (hV : Rd w (Now w) V cs) (hx : Rd w (Now w) X0 xs) :
  Calls Tryz.prog 13 #[.agg cs.toArray, .string pa, .agg xs.toArray] w (TellR (Now w) (pushP V pa X0) w) := by
 obtain ⟨i0, hi, hz0, hz1, hz2⟩ := info_parts info52
 have hF1 : Hid (askR V pa ≠ 0 → pushP V pa X0 = (zeroP, askR V pa)) := fun h => by
  have h1 := ask_also (also := [X0]) h
  unfold pushP
  rw [thereU_ask (by rw [h1]; exact h), h1]
 have hF2 : Hid (askR V pa = 0 → X0.good ≠ 0 → pushP V pa X0 = (zeroP, X0.good)) := fun h h2 => by
  have h1 := ask_one (x := X0) h
  unfold pushP
  rw [thereU_ask (by rw [h1]; exact h2), h1]
 have hF8 : Hid (X0.good = 0 → ∀ l, askS V pa = some l → getP V l = none → pushP V pa X0 = (zeroP, 8)) := fun h2 l h3 h4 => thereR_none (askS_is h3).2 (by rw [ask_one (askS_is h3).2]; exact h2) (askS_is h3).1 h4
 have hF7 : Hid (X0.good = 0 → ∀ l, askS V pa = some l → ∀ y, getP V l = some y → y.k ≠ 5 → pushP V pa X0 = (zeroP, 7)) := fun h2 l h3 y h4 h5 => by
  have h6 := toPush_kind (x := X0) h5
  have h7 := thereR_err (tf := toPush X0) (also := [X0]) (askS_is h3).2 (by rw [ask_one (askS_is h3).2]; exact h2) (askS_is h3).1 h4 (by rw [h6]; show (7 : Int) ≠ 0; omega)
  unfold pushP
  rw [h7, h6]
 have hF0 : Hid (X0.good = 0 → ∀ l, askS V pa = some l → ∀ y, getP V l = some y → y.k = 5 → toldR (setR V l (listV (y.l ++ [X0]))).1 (setR V l (listV (y.l ++ [X0]))).2 = pushP V pa X0) := fun h2 l h3 y h4 h5 => thereR_told hV.fits (askS_is h3).2 (by rw [ask_one (askS_is h3).2]; exact h2) (askS_is h3).1 h4 (toPush_list h5)
 have has := hid (fun (w' : World) (h : Below w.heap.size w w') => rasked_calls V (by omega) pa hpa (hV.later h))
 have hgd := hid (fun (w' : World) (h : Below w.heap.size w w') => rgood_mass X0 (by omega) w' xs (hx.later h))
 have hgt : Hid (∀ (l : List ByteArray) (w' : World) (sv : Value), askS V pa = some l → Below w.heap.size w w' → StrsAt w' (Now w') l sv → Calls Tryz.prog 37 #[.agg cs.toArray, sv] w' (Stepd (getP V l) (Now w) w')) := fun l w' sv h1 h2 h3 => rget_calls l V w' cs sv (Now w) (fun s hs => Nat.le_trans ((steps_small (askS_is h1).1).2 s hs) (by decide)) (fun c hc => Nat.lt_of_lt_of_le hc h2.size) (hV.keep (fun _ h => h) (fun c hc => h2.block c hc)) h3
 have hst : Hid (∀ (l : List ByteArray) (w' : World) (S : Nat → Prop) (Y : PVal) (ys : List Value) (sv : Value), askS V pa = some l → Below w.heap.size w w' → (∀ c, Now w c → S c) → (∀ c, S c → c < w'.heap.size) → Rd w' S Y ys → StrsAt w' (Now w') l sv → Calls Tryz.prog 36 #[.agg cs.toArray, sv, .agg ys.toArray] w' (TellR S (setR V l Y) w')) := fun l w' S Y ys sv h1 h2 h3 h4 h5 h6 => rset_at hm h1 h4 (hV.keep h3 (fun c hc => h2.block c hc)) h5 h6
 have hml : Hid (∀ l, askS V pa = some l → ∀ y, getP V l = some y → (setR V l (listV (y.l ++ [X0]))).1.mass ≤ 1073741824) := fun l h y h2 => by
  have h3 := mass_getP l V y h2
  have h4 := mass_l y
  have h5 := rset_mass (v := V) (x := listV (y.l ++ [X0])) (p := pa) (l := l) (M := 67108896) hV.fits (ask_zero (askS_is h).2).1 (askS_is h).1 (by omega) (by omega) (by rw [mass_listV, massL_app]; simp only [massL]; omega)
  omega
 have hml2 : Hid (∀ l y, getP V l = some y → y.l.length ≤ 33554432) := fun l y h2 => by
  have h3 := mass_getP l V y h2
  have h4 := mass_l y
  have h5 := len_massL y.l
  omega
 have hN : Hid (askS V pa = none → askR V pa ≠ 0) := askS_no
 have hA : Hid (∀ l, askS V pa = some l → askR V pa = 0) := fun l h => (askS_is h).2
 obtain ⟨TR, hTR⟩ : ∃ R, R = pushP V pa X0 := ⟨_, rfl⟩
 rw [← hTR] at hF1 hF2 hF8 hF7 hF0 ⊢
 obtain ⟨AS, hAS⟩ : ∃ R, R = askS V pa := ⟨_, rfl⟩
 rw [← hAS] at hF8 hF7 hF0 has hgt hst hml hN hA
 obtain ⟨AR, hAR⟩ : ∃ R, R = askR V pa := ⟨_, rfl⟩
 rw [← hAR] at hF1 hF2 has hN hA
 obtain ⟨GX, hGX⟩ : ∃ R, R = X0.good := ⟨_, rfl⟩
 rw [← hGX] at hF2 hF8 hF7 hF0 hgd
 clear hTR hAS hAR hGX
 have hx0 := hid hx
 unfold TellR at hst ⊢
 unfold Stepd at hgt
 unfold AskedR at has
 obtain ⟨vk, vn, vt, va, vl, vc, vf, vm, vg, rfl⟩ := hV.five
 obtain ⟨uk, un, ut, ua, ul, uc, uf, um, ug, rfl⟩ := hx.five
 clear hV hx hm hmx hpa
 obtain ⟨W0, hW0⟩ : ∃ W0, W0 = ((w.alloc (.cells #[.int .i64 vk, .int .i64 vn, .string vt, .slice va vl vc, .slice vf vm vg] 25)).alloc (.cells #[.int .i64 uk, .int .i64 un, .string ut, .slice ua ul uc, .slice uf um ug] 25)).alloc (.cells #[.int .i64 0, .int .i64 0, .string ⟨#[]⟩, .slice none 0 0, .slice none 0 0] 25) := ⟨_, rfl⟩
 have D : Hid (Below w.heap.size w W0) := by show Below _ _ _; rw [hW0]; exact (((below_new _ _).step (below_new _ _)).step (below_new _ _))
 have r0 : Hid (W0.heap[w.heap.size]? = some (.cells #[.int .i64 vk, .int .i64 vn, .string vt, .slice va vl vc, .slice vf vm vg] 25 (0, 0))) := by show _ = _; rw [hW0]; exact (al_old (al_old (al_at rfl)))
 have r1 : Hid (W0.heap[w.heap.size + 1]? = some (.cells #[.int .i64 uk, .int .i64 un, .string ut, .slice ua ul uc, .slice uf um ug] 25 (0, 0))) := by show _ = _; rw [hW0]; exact (al_old (al_at (by simp)))
 have r2 : Hid (W0.heap[w.heap.size + 2]? = some (.cells #[.int .i64 0, .int .i64 0, .string ⟨#[]⟩, .slice none 0 0, .slice none 0 0] 25 (0, 0))) := by show _ = _; rw [hW0]; exact (al_at (by simp))
 have hW0s : Hid (w.heap.size + 2 < W0.heap.size) := lt_of_block r2.out
 go_enter Tryz.func13, Tryz.ntmps13
 go_upto_region 1 with fail
 rw [← hW0]
 clear hW0
 have a0_0 := box_at (j := 0) r0.out rfl
 have a0_1 := box_at (j := 1) r0.out rfl
 have a0_2 := box_at (j := 2) r0.out rfl
 have a0_3 := box_at (j := 3) r0.out rfl
 have a0_4 := box_at (j := 4) r0.out rfl
 go_wp2_with fail
 refine (has.out _ D.out).mono ?_
 rintro e w1 ⟨h1, hres⟩
 clear a0_0 a0_1 a0_2 a0_3 a0_4
 have N := hid h1
 clear h1
 replace D := hid (D.out.step N.out)
 replace r0 := hid ((N.out.block _ (lt_of_block r0.out)).trans r0.out)
 replace r1 := hid ((N.out.block _ (lt_of_block r1.out)).trans r1.out)
 replace r2 := hid ((N.out.block _ (lt_of_block r2.out)).trans r2.out)
 clear N
 cases AS with
 | none =>
  obtain rfl := hres
  have hA0 := hN.out rfl
  obtain rfl := hF1.out hA0
  have hAi : (AR == 0) = false := by simp [hA0]
  have hAj : (AR != 0) = true := by simp [hA0]
  clear hF1 hF2 hF8 hF7 hF0 hN hA hst hgt hml hgd hA0 has
  have c0 := box_at (j := 0) r2.out rfl
  have c1 := box_at (j := 1) r2.out rfl
  have c2 := box_at (j := 2) r2.out rfl
  have c3 := box_at (j := 3) r2.out rfl
  have c4 := box_at (j := 4) r2.out rfl
  have f0 := box_free r2.out
  go_wp2_with fail
  clear c0 c1 c2 c3 c4
  clear f0
  have hbz := hid (set5_below D.out (Nat.le_add_right w.heap.size 2) (.int .i64 0) (.int .i64 0) (.string ⟨#[]⟩) (.slice none 0 0) (.slice none 0 0))
  have rz := hid (set5_box (u0 := .int .i64 0) (u1 := .int .i64 0) (u2 := .string ⟨#[]⟩) (u3 := .slice none 0 0) (u4 := .slice none 0 0) r2.out)
  have hkp := hid (fun bq (hb : bq ≠ w.heap.size + 2) => set5_other w1 (w.heap.size + 2) (.int .i64 0) (.int .i64 0) (.string ⟨#[]⟩) (.slice none 0 0) (.slice none 0 0) (b := bq) hb)
  have hsz9 := hid (set5_size w1 (w.heap.size + 2) (.int .i64 0) (.int .i64 0) (.string ⟨#[]⟩) (.slice none 0 0) (.slice none 0 0))
  unfold set5 at hbz rz hkp hsz9
  generalize ((((w1.setCell ⟨w.heap.size + 2, 0, none⟩ (.int .i64 0)).setCell ⟨w.heap.size + 2, 1, none⟩ (.int .i64 0)).setCell ⟨w.heap.size + 2, 2, none⟩ (.string ⟨#[]⟩)).setCell ⟨w.heap.size + 2, 3, none⟩ (.slice none 0 0)).setCell ⟨w.heap.size + 2, 4, none⟩ (.slice none 0 0) = w9 at *
  have z0 := box_at (j := 0) rz.out rfl
  have z1 := box_at (j := 1) rz.out rfl
  have z2 := box_at (j := 2) rz.out rfl
  have z3 := box_at (j := 3) rz.out rfl
  have z4 := box_at (j := 4) rz.out rfl
  refine ⟨rfl, _, by simp [results, Tryz.results13, go_sem, z0, z1, z2, z3, z4] <;> exact ⟨rfl, rfl⟩, [.int .i64 0, .int .i64 0, .string ⟨#[]⟩, .slice none 0 0, .slice none 0 0], rfl, hbz.out, ?_⟩
  exact rd_zeroP
 | some l =>
  obtain ⟨sv, rfl, hss⟩ := hres
  obtain rfl := hA.out l rfl
  have hs1 := hid (StrsAt.keep hss (S' := Now w1) (fun c h => h.2) (fun _ _ => rfl))
  clear hss hF1 has hN hA
  have a1_0 := box_at (j := 0) r1.out rfl
  have a1_1 := box_at (j := 1) r1.out rfl
  have a1_2 := box_at (j := 2) r1.out rfl
  have a1_3 := box_at (j := 3) r1.out rfl
  have a1_4 := box_at (j := 4) r1.out rfl
  go_wp2_with fail
  refine (hgd.out _ D.out).mono ?_
  rintro e w2 ⟨rfl, h2⟩
  clear a1_0 a1_1 a1_2 a1_3 a1_4
  replace hs1 := hid (hs1.out.later h2)
  have N := hid h2
  clear h2
  replace D := hid (D.out.step N.out)
  replace r0 := hid ((N.out.block _ (lt_of_block r0.out)).trans r0.out)
  replace r1 := hid ((N.out.block _ (lt_of_block r1.out)).trans r1.out)
  replace r2 := hid ((N.out.block _ (lt_of_block r2.out)).trans r2.out)
  clear N
  by_cases hG0 : GX = 0
  ·subst hG0
   clear hF2 hgd
   have a0_0 := box_at (j := 0) r0.out rfl
   have a0_1 := box_at (j := 1) r0.out rfl
   have a0_2 := box_at (j := 2) r0.out rfl
   have a0_3 := box_at (j := 3) r0.out rfl
   have a0_4 := box_at (j := 4) r0.out rfl
   go_wp2_with fail
   refine (hgt.out l _ _ rfl D.out hs1.out).mono ?_
   rintro e w3 ⟨cs3, rfl, h3, hr3⟩
   clear a0_0 a0_1 a0_2 a0_3 a0_4
   replace hs1 := hid (hs1.out.later h3)
   have N := hid h3
   clear h3
   replace D := hid (D.out.step N.out)
   replace r0 := hid ((N.out.block _ (lt_of_block r0.out)).trans r0.out)
   replace r1 := hid ((N.out.block _ (lt_of_block r1.out)).trans r1.out)
   replace r2 := hid ((N.out.block _ (lt_of_block r2.out)).trans r2.out)
   clear N
   replace hgt := hid trivial
   clear hgt
   obtain ⟨GP, hGP⟩ : ∃ R, R = getP V l := ⟨_, rfl⟩
   rw [← hGP] at hr3 ⊢
   cases GP with
   | none =>
    obtain rfl := hF8.out (by simp) l rfl hGP.symm
    clear hF8 hF7 hF0 hst hml hml2 hs1 hGP
    obtain ⟨qk, qn, qt, qa, ql, qc, qf, qm, qg, rfl⟩ := hr3.five
    clear hr3
    go_upto_region 7 with fail
    obtain ⟨w4, hw_⟩ : ∃ x, x = w3.alloc (.cells #[.int .i64 qk, .int .i64 qn, .string qt, .slice qa ql qc, .slice qf qm qg] 25) := ⟨_, rfl⟩
    have h_ : Below w3.heap.size w3 w4 := by rw [hw_]; exact below_new _ _
    have rn_ : Hid (w4.heap[w3.heap.size]? = some (.cells #[.int .i64 qk, .int .i64 qn, .string qt, .slice qa ql qc, .slice qf qm qg] 25 (0, 0))) := by show _ = _; rw [hw_]; exact heap_alloc_new _ _
    rw [← hw_]
    clear hw_
    have N := hid h_
    clear h_
    replace D := hid (D.out.step N.out)
    replace r0 := hid ((N.out.block _ (lt_of_block r0.out)).trans r0.out)
    replace r1 := hid ((N.out.block _ (lt_of_block r1.out)).trans r1.out)
    replace r2 := hid ((N.out.block _ (lt_of_block r2.out)).trans r2.out)
    clear N
    have r3 := rn_
    clear rn_
    have c0 := box_at (j := 0) r2.out rfl
    have c1 := box_at (j := 1) r2.out rfl
    have c2 := box_at (j := 2) r2.out rfl
    have c3 := box_at (j := 3) r2.out rfl
    have c4 := box_at (j := 4) r2.out rfl
    have f0 := box_free r2.out
    go_wp2_with fail
    clear c0 c1 c2 c3 c4
    clear f0
    have hbz := hid (set5_below D.out (Nat.le_add_right w.heap.size 2) (.int .i64 0) (.int .i64 0) (.string ⟨#[]⟩) (.slice none 0 0) (.slice none 0 0))
    have rz := hid (set5_box (u0 := .int .i64 0) (u1 := .int .i64 0) (u2 := .string ⟨#[]⟩) (u3 := .slice none 0 0) (u4 := .slice none 0 0) r2.out)
    have hkp := hid (fun bq (hb : bq ≠ w.heap.size + 2) => set5_other w4 (w.heap.size + 2) (.int .i64 0) (.int .i64 0) (.string ⟨#[]⟩) (.slice none 0 0) (.slice none 0 0) (b := bq) hb)
    have hsz9 := hid (set5_size w4 (w.heap.size + 2) (.int .i64 0) (.int .i64 0) (.string ⟨#[]⟩) (.slice none 0 0) (.slice none 0 0))
    unfold set5 at hbz rz hkp hsz9
    generalize ((((w4.setCell ⟨w.heap.size + 2, 0, none⟩ (.int .i64 0)).setCell ⟨w.heap.size + 2, 1, none⟩ (.int .i64 0)).setCell ⟨w.heap.size + 2, 2, none⟩ (.string ⟨#[]⟩)).setCell ⟨w.heap.size + 2, 3, none⟩ (.slice none 0 0)).setCell ⟨w.heap.size + 2, 4, none⟩ (.slice none 0 0) = w9 at *
    have z0 := box_at (j := 0) rz.out rfl
    have z1 := box_at (j := 1) rz.out rfl
    have z2 := box_at (j := 2) rz.out rfl
    have z3 := box_at (j := 3) rz.out rfl
    have z4 := box_at (j := 4) rz.out rfl
    refine ⟨rfl, _, by simp [results, Tryz.results13, go_sem, z0, z1, z2, z3, z4] <;> exact ⟨rfl, rfl⟩, [.int .i64 0, .int .i64 0, .string ⟨#[]⟩, .slice none 0 0, .slice none 0 0], rfl, hbz.out, ?_⟩
    exact rd_zeroP
   | some old =>
    have hF7l := hid (hF7.out (by simp) l rfl old hGP.symm)
    have hF0l := hid (hF0.out (by simp) l rfl old hGP.symm)
    have hmll := hid (hml.out l rfl old hGP.symm)
    have hlm := hid (hml2.out l old hGP.symm)
    clear hF8 hF7 hF0 hml hml2 hGP
    obtain ⟨qk, qn, qt, ql, qfn, qfv⟩ := old
    simp only [Option.getD_some] at hr3
    obtain ⟨qa, qc, qf, qg, rfl, _, _, _, _, _, _, _, hLr, _⟩ := hr3.inv
    simp only [PVal.k, PVal.l] at hF7l hF0l hlm hmll
    clear hr3
    go_upto_region 7 with fail
    obtain ⟨w4, hw_⟩ : ∃ x, x = w3.alloc (.cells #[.int .i64 qk, .int .i64 qn, .string qt, .slice qa ql.length qc, .slice qf qfv.length qg] 25) := ⟨_, rfl⟩
    have h_ : Below w3.heap.size w3 w4 := by rw [hw_]; exact below_new _ _
    have rn_ : Hid (w4.heap[w3.heap.size]? = some (.cells #[.int .i64 qk, .int .i64 qn, .string qt, .slice qa ql.length qc, .slice qf qfv.length qg] 25 (0, 0))) := by show _ = _; rw [hw_]; exact heap_alloc_new _ _
    rw [← hw_]
    clear hw_
    have N := hid h_
    clear h_
    have DW3 := hid D.out.size
    replace D := hid (D.out.step N.out)
    replace r0 := hid ((N.out.block _ (lt_of_block r0.out)).trans r0.out)
    replace r1 := hid ((N.out.block _ (lt_of_block r1.out)).trans r1.out)
    replace r2 := hid ((N.out.block _ (lt_of_block r2.out)).trans r2.out)
    replace hs1 := hid (hs1.out.later N.out)
    have hLr4 := hid (RdL.keep (S' := Now w) (fun _ h => h) (fun c hc => N.out.block c (Nat.lt_of_lt_of_le hc DW3.out)) hLr)
    clear N
    have r3 := rn_
    clear rn_
    clear hLr DW3
    by_cases hk5 : qk = 5
    ·have hki : (qk != 5) = false := by simp [hk5]
     have hR := hid (hF0l.out hk5)
     clear hF7l hF0l
     replace hk5 := hid hk5
     have k0 := box_at (j := 0) r3.out rfl
     go_upto_region 12 with fail
     clear k0 hki
     obtain ⟨w5, hw5⟩ : ∃ x, x = w4.alloc (.cells #[.int .i64 5, .int .i64 0, .string ⟨#[]⟩, .slice none 0 0, .slice none 0 0] 25) := ⟨_, rfl⟩
     have D45 : Hid (Below w4.heap.size w4 w5) := by show Below _ _ _; rw [hw5]; exact below_new _ _
     have ry : Hid (w5.heap[w4.heap.size]? = some (.cells #[.int .i64 5, .int .i64 0, .string ⟨#[]⟩, .slice none 0 0, .slice none 0 0] 25 (0, 0))) := by show _ = _; rw [hw5]; exact heap_alloc_new _ _
     have hz5 : Hid (w5.heap.size = w4.heap.size + 1) := by show _ = _; rw [hw5]; simp
     rw [← hw5]
     clear hw5
     have hRel : RowRel (fun (_ : World) (_ : Nat → Prop) (x : PVal) (cs : List Value) => Rd w4 (Now w) x cs) 5 := ⟨fun _ _ h => h, fun h => h.one, fun h => h.len⟩
     replace hRel := hid hRel
     have hx4 := hid (hx0.out.keep (S' := Now w) (fun _ h => h) (fun c hc => D.out.block c hc))
     obtain ⟨css, hcl, hlie, hln, hce⟩ := rdL_lie (fun c hc => Nat.lt_of_lt_of_le hc D.out.size) hLr4.out
     have hfl := flat_len 5 css hlie.1
     rw [hcl] at hfl hln
     replace hcl := hid hcl
     replace hce := hid hce
     have hlie5 := hid (hlie.later D45.out)
     clear hlie hLr4
     have hra := hid (fun (w' : World) (h : Below w5.heap.size w5 w') => run_append_any (P := Tryz.prog) w' w'.heap.size 22 22 25 i0 _ 5 80 Tryz.underlying22 hi hz0 hz1 hz2 rfl (by decide) qa ql.length qc css.flatten hfl hln (hlie5.out.later h).flat hlie5.out.one (by have := hlm.out; unfold maxLen; omega) (by have := hlm.out; omega) (Nat.le_refl _))
     clear hfl hln hlie5
     have hSS : Hid (∀ x : World, (∀ c, c < w5.heap.size → x.heap[c]? = w5.heap[c]?) → RpS w4.heap.size w3.heap.size (w.heap.size + 1) (.slice qa ql.length qc) (.int .i64 uk) (.int .i64 un) (.string ut) (.slice ua ul uc) (.slice uf um ug) x) := fun x h => by
      have h1 := (h _ (lt_of_block ry.out)).trans ry.out
      have h2 := (h _ (Nat.lt_of_lt_of_le (lt_of_block r3.out) D45.out.size)).trans ((D45.out.block _ (lt_of_block r3.out)).trans r3.out)
      have h3 := (h _ (Nat.lt_of_lt_of_le (lt_of_block r1.out) D45.out.size)).trans ((D45.out.block _ (lt_of_block r1.out)).trans r1.out)
      exact ⟨box_at h1 rfl, box_at h2 rfl, box_at h3 rfl, box_at h3 rfl, box_at h3 rfl, box_at h3 rfl, box_at h3 rfl⟩
     go_cut [12] from 41 to 49 (fun s12 wx => ∃ (a8 : Option Addr) (c8 : Nat), s12 = .pointer (some ⟨w4.heap.size, 0, none⟩) ∧ wx.heap[w4.heap.size]? = some (.cells #[.int .i64 5, .int .i64 0, .string ⟨#[]⟩, .slice a8 (ql.length + 1) c8, .slice none 0 0] 25 (0, 0)) ∧ Rd wx (fun c => Now w c ∨ From w4.heap.size wx c) (listV (ql ++ [X0])) [.int .i64 5, .int .i64 0, .string ⟨#[]⟩, .slice a8 (ql.length + 1) c8, .slice none 0 0] ∧ Below w4.heap.size w4 wx)
     case first =>
      refine wp_region_T (RpS w4.heap.size w3.heap.size (w.heap.size + 1) (.slice qa ql.length qc) (.int .i64 uk) (.int .i64 un) (.string ut) (.slice ua ul uc) (.slice uf um ug)) 9 (by kernel_rfl) ?_
      have hq0 := hSS.out w5.drew (fun _ _ => rfl)
      ((refine wpAnyT_take (i := 0) (v := ?_) rfl (by kernel_rfl) (by kernel_rfl) (by kernel_rfl) (by kernel_rfl) (by exact fun _ _ _ h => h) (Or.inl ⟨by kernel_rfl, ?_⟩) hq0 ?_; rotate_left 1; focus (intro w hSw; unfold RpS at hSw; (try dsimp only at hSw); go_simp; try with_reducible rfl); (try simp only [List.getElem_toArray, List.getElem_cons_zero, List.getElem_cons_succ, Act.put, List.setIfInBounds_toArray, List.set_cons_zero, List.set_cons_succ])); (refine wpAnyT_take (i := 1) (v := ?_) rfl (by kernel_rfl) (by kernel_rfl) (by kernel_rfl) (by kernel_rfl) (by exact fun _ _ _ h => h) (Or.inl ⟨by kernel_rfl, ?_⟩) hq0 ?_; rotate_left 1; focus (intro w hSw; unfold RpS at hSw; (try dsimp only at hSw); go_simp; try with_reducible rfl); (try simp only [List.getElem_toArray, List.getElem_cons_zero, List.getElem_cons_succ, Act.put, List.setIfInBounds_toArray, List.set_cons_zero, List.set_cons_succ])); (refine wpAnyT_take (i := 2) (v := ?_) rfl (by kernel_rfl) (by kernel_rfl) (by kernel_rfl) (by kernel_rfl) (by exact fun _ _ _ h => h) (Or.inl ⟨by kernel_rfl, ?_⟩) hq0 ?_; rotate_left 1; focus (intro w hSw; unfold RpS at hSw; (try dsimp only at hSw); go_simp; try with_reducible rfl); (try simp only [List.getElem_toArray, List.getElem_cons_zero, List.getElem_cons_succ, Act.put, List.setIfInBounds_toArray, List.set_cons_zero, List.set_cons_succ])); (refine wpAnyT_take (i := 3) (v := ?_) rfl (by kernel_rfl) (by kernel_rfl) (by kernel_rfl) (by kernel_rfl) (by exact fun _ _ _ h => h) (Or.inl ⟨by kernel_rfl, ?_⟩) hq0 ?_; rotate_left 1; focus (intro w hSw; unfold RpS at hSw; (try dsimp only at hSw); go_simp; try with_reducible rfl); (try simp only [List.getElem_toArray, List.getElem_cons_zero, List.getElem_cons_succ, Act.put, List.setIfInBounds_toArray, List.set_cons_zero, List.set_cons_succ])); (refine wpAnyT_take (i := 5) (v := ?_) rfl (by kernel_rfl) (by kernel_rfl) (by kernel_rfl) (by kernel_rfl) (by exact fun _ _ _ h => h) (Or.inl ⟨by kernel_rfl, ?_⟩) hq0 ?_; rotate_left 1; focus (intro w hSw; unfold RpS at hSw; (try dsimp only at hSw); go_simp; try with_reducible rfl); (try simp only [List.getElem_toArray, List.getElem_cons_zero, List.getElem_cons_succ, Act.put, List.setIfInBounds_toArray, List.set_cons_zero, List.set_cons_succ])))
      refine wpAnyT_two (i := 4) (j := 6) (by kernel_rfl) rfl rfl (fun K hK => ?_) (fun K hK => ?_)
      ·obtain ⟨v1, w6, hr1, hown, hb6⟩ := hra.out w5.drew (Below.refl w5.heap.size w5).drew
       have E := hid ((Below.refl w5.heap.size w5).drew.step hb6)
       have hG4 : OwnG (fun (_ : World) (_ : Nat → Prop) (x : PVal) (cs : List Value) => Rd w4 (Now w) x cs) 5 w5.heap.size 0 25 w6 ql v1 := ⟨css, hcl.out, hown, fun i x cs hx hc => hce.out i x cs hx hc⟩
       refine step_append_run rfl _ _ _ _ rfl _ _ rfl rfl hr1 ?_
       clear hb6 hown hr1
       (refine hK.out _ _ (fun _ => hSS.out w6 E.out.block) (fun _ => ?_); clear hK K; (try simp only [Act.put, List.setIfInBounds_toArray]))
       refine wpAnyT_one (i := 6) (by kernel_rfl) rfl (fun K hK => ?_)
       go_simp
       have E5 := hid (E.out.step (below_new w6 (.cells #[.int .i64 uk, .int .i64 un, .string ut, .slice ua ul uc, .slice uf um ug] 25)))
       have hG5 := hid (hG4.keep hRel.out (below_new w6 (.cells #[.int .i64 uk, .int .i64 un, .string ut, .slice ua ul uc, .slice uf um ug] 25)).size (fun b hb => (below_new w6 (.cells #[.int .i64 uk, .int .i64 un, .string ut, .slice ua ul uc, .slice uf um ug] 25)).block b (hG4.lt b hb).2) (fun b hb => (below_new w6 (.cells #[.int .i64 uk, .int .i64 un, .string ut, .slice ua ul uc, .slice uf um ug] 25)).block b hb.2.1))
       clear hG4
       (refine hK.out _ _ (fun _ => hSS.out _ E5.out.block) (fun _ => ?_); clear hK K; (try simp only [Act.put, List.setIfInBounds_toArray, List.set_cons_zero, List.set_cons_succ]))
       refine wpAnyT_one (i := 7) (by kernel_rfl) rfl (fun K hK => ?_)
       refine step_append_g hRel.out _ rfl _ _ 22 rfl w5.heap.size 0 25 80 i0 _ Tryz.underlying22 hi hz0 hz1 hz2 rfl (by decide) ql _ rfl hG5.out ⟨w6.heap.size, 0, none⟩ 1 [.int .i64 uk, .int .i64 un, .string ut, .slice ua ul uc, .slice uf um ug] X0 rfl (cells_new _ _ rfl _ _) hx4.out (by have := hlm.out; omega) (by have := hlm.out; unfold maxLen; omega) E5.out.size ?_
       intro v8 w8 hown8 hg8 hlow8 hst8
       have hg9 : World.grownBy _ w8 v1.ownBlock := hg8
       have hB8 := hid (E5.out.trans ((grown_from hG5.out hg9 E5.out.size).mono (Nat.le_refl _)))
       clear hg9
       obtain ⟨a8, c8, hv8, hc8⟩ := hown8.form
       rw [List.length_append, List.length_singleton] at hv8 hc8
       subst hv8
       clear hlow8 hst8 hg8
       (refine hK.out _ _ (fun _ => hSS.out w8 hB8.out.block) (fun _ => ?_); clear hK K; (try simp only [Act.put, List.setIfInBounds_toArray]))
       refine wpAnyT_one (i := 8) (by kernel_rfl) rfl (fun K hK => ?_)
       go_simp
       (refine hK.out _ _ (fun _ => hSS.out w8 hB8.out.block) (fun _ => ?_); clear hK K; (try simp only [Act.put, List.setIfInBounds_toArray, List.set_cons_zero, List.set_cons_succ]))
       have q5 := hid ((hB8.out.block _ (lt_of_block ry.out)).trans ry.out)
       have c3 := box_at (j := 3) q5.out rfl
       have f0 := box_free q5.out
       refine wpAnyT_one (i := 9) (by kernel_rfl) rfl (fun K hK => ?_)
       go_simp
       (refine hK.out _ _ (fun h => absurd h (by decide)) (fun _ => ?_); clear hK K; (try simp only [Act.put, List.setIfInBounds_toArray]))
       clear c3 f0
       refine wpAnyT_done (by kernel_rfl) ?_ _
       obtain ⟨w9, hw9⟩ : ∃ x, x = w8.setCell ⟨w4.heap.size, 3, none⟩ (.slice a8 (ql.length + 1) c8) := ⟨_, rfl⟩
       have s7 : Hid (w9.heap[w4.heap.size]? = some (.cells #[.int .i64 5, .int .i64 0, .string ⟨#[]⟩, .slice a8 (ql.length + 1) c8, .slice none 0 0] 25 (0, 0))) := by show _ = _; rw [hw9]; exact row_setCell q5.out
       have hk9 : Hid (∀ b, b ≠ w4.heap.size → w9.heap[b]? = w8.heap[b]?) := fun b hb => by rw [hw9]; exact Below.heap_setCell _ _ _ _ hb
       have hz9 : Hid (w9.heap.size = w8.heap.size) := by show _ = _; rw [hw9]; simp [World.setCell]
       have D9 : Hid (Below w4.heap.size w4 w9) := by show Below _ _ _; rw [hw9]; exact (D45.out.step hB8.out).setCell (p := ⟨w4.heap.size, 3, none⟩) (Nat.le_refl _) _
       rw [← hw9]
       clear hw9 q5
       go_wp2_with fail
       go_meet
       have hfin := own_push_read (w0 := w4) (g := w4.heap.size) hown8 hk9.out hz9.out (by have := hz5.out; omega) (fun c hc => D9.out.block c (Nat.lt_of_lt_of_le hc D.out.size)) (by have := hz5.out; omega) (by have := hlm.out; rw [List.length_append, List.length_singleton]; omega)
       exact ⟨a8, c8, rfl, s7.out, rd_listV hfin, D9.out⟩
      ·go_simp
       obtain ⟨wg, hwg⟩ : ∃ wg, wg = w5.alloc (.cells #[.int .i64 uk, .int .i64 un, .string ut, .slice ua ul uc, .slice uf um ug] 25) := ⟨_, rfl⟩
       have E1 : Hid (Below w5.heap.size w5 wg) := by show Below _ _ _; rw [hwg]; exact below_new _ _
       have gz : Hid (wg.heap[w5.heap.size]? = some (.cells #[.int .i64 uk, .int .i64 un, .string ut, .slice ua ul uc, .slice uf um ug] 25 (0, 0))) := by show _ = _; rw [hwg]; exact heap_alloc_new _ _
       rw [← hwg]
       clear hwg
       have E2 := hid (E1.out.step (Below.refl wg.heap.size wg).drew)
       (refine hK.out _ _ (fun _ => hSS.out wg.drew E2.out.block) (fun _ => ?_); clear hK K; (try simp only [Act.put, List.setIfInBounds_toArray, List.set_cons_zero, List.set_cons_succ]))
       refine wpAnyT_one (i := 4) (by kernel_rfl) rfl (fun K hK => ?_)
       obtain ⟨v1, w6, hr1, hown, hb6⟩ := hra.out wg.drew E2.out
       have E5 := hid (E2.out.step hb6)
       have gz4 := hid ((hb6.block _ (lt_of_block gz.out)).trans gz.out)
       have hs4 : Hid (wg.heap.size ≤ w6.heap.size) := hb6.size
       have hs1_ : Hid (w5.heap.size ≤ wg.heap.size) := E1.out.size
       have hG5 : Hid (OwnG (fun (_ : World) (_ : Nat → Prop) (x : PVal) (cs : List Value) => Rd w4 (Now w) x cs) 5 wg.heap.size 0 25 w6 ql v1) := ⟨css, hcl.out, hown, fun i x cs hx hc => hce.out i x cs hx hc⟩
       refine step_append_run rfl _ _ _ _ rfl _ _ rfl rfl hr1 ?_
       clear hb6 hown hr1 gz
       (refine hK.out _ _ (fun _ => hSS.out w6 E5.out.block) (fun _ => ?_); clear hK K; (try simp only [Act.put, List.setIfInBounds_toArray]))
       refine wpAnyT_one (i := 7) (by kernel_rfl) rfl (fun K hK => ?_)
       refine step_append_g hRel.out _ rfl _ _ 22 rfl wg.heap.size 0 25 80 i0 _ Tryz.underlying22 hi hz0 hz1 hz2 rfl (by decide) ql _ rfl hG5.out ⟨w5.heap.size, 0, none⟩ 1 [.int .i64 uk, .int .i64 un, .string ut, .slice ua ul uc, .slice uf um ug] X0 rfl (fun j u hj => by rw [addr_at, Nat.zero_add]; exact box_at gz4.out (by simpa using hj)) hx4.out (by have := hlm.out; omega) (by have := hlm.out; unfold maxLen; omega) hs4.out ?_
       intro v8 w8 hown8 hg8 hlow8 hst8
       have hg9 : World.grownBy _ w8 v1.ownBlock := hg8
       have hB8 := hid (E5.out.trans ((grown_from hG5.out hg9 hs4.out).mono hs1_.out))
       clear hg9
       obtain ⟨a8, c8, hv8, hc8⟩ := hown8.form
       rw [List.length_append, List.length_singleton] at hv8 hc8
       subst hv8
       clear hlow8 hst8 hg8
       refine hK.out _ _ (fun _ => hSS.out w8 hB8.out.block) (fun _ => ?_)
       clear hK K
       simp only [Act.put]
       refine wpAnyT_one (i := 8) (by kernel_rfl) rfl (fun K hK => ?_)
       go_simp
       (refine hK.out _ _ (fun _ => hSS.out w8 hB8.out.block) (fun _ => ?_); clear hK K; (try simp only [Act.put, List.setIfInBounds_toArray, List.set_cons_zero, List.set_cons_succ]))
       have q5 := hid ((hB8.out.block _ (lt_of_block ry.out)).trans ry.out)
       have c3 := box_at (j := 3) q5.out rfl
       have f0 := box_free q5.out
       refine wpAnyT_one (i := 9) (by kernel_rfl) rfl (fun K hK => ?_)
       go_simp
       (refine hK.out _ _ (fun h => absurd h (by decide)) (fun _ => ?_); clear hK K; (try simp only [Act.put, List.setIfInBounds_toArray]))
       clear c3 f0
       refine wpAnyT_done (by kernel_rfl) ?_ _
       obtain ⟨w9, hw9⟩ : ∃ x, x = w8.setCell ⟨w4.heap.size, 3, none⟩ (.slice a8 (ql.length + 1) c8) := ⟨_, rfl⟩
       have s7 : Hid (w9.heap[w4.heap.size]? = some (.cells #[.int .i64 5, .int .i64 0, .string ⟨#[]⟩, .slice a8 (ql.length + 1) c8, .slice none 0 0] 25 (0, 0))) := by show _ = _; rw [hw9]; exact row_setCell q5.out
       have hk9 : Hid (∀ b, b ≠ w4.heap.size → w9.heap[b]? = w8.heap[b]?) := fun b hb => by rw [hw9]; exact Below.heap_setCell _ _ _ _ hb
       have hz9 : Hid (w9.heap.size = w8.heap.size) := by show _ = _; rw [hw9]; simp [World.setCell]
       have D9 : Hid (Below w4.heap.size w4 w9) := by show Below _ _ _; rw [hw9]; exact (D45.out.step hB8.out).setCell (p := ⟨w4.heap.size, 3, none⟩) (Nat.le_refl _) _
       rw [← hw9]
       clear hw9 q5
       go_wp2_with fail
       go_meet
       have hfin := own_push_read (w0 := w4) (g := w4.heap.size) hown8 hk9.out hz9.out (by have := hz5.out; have := hs1_.out; omega) (fun c hc => D9.out.block c (Nat.lt_of_lt_of_le hc D.out.size)) (by have := hz5.out; have := hs1_.out; omega) (by have := hlm.out; rw [List.length_append, List.length_singleton]; omega)
       exact ⟨a8, c8, rfl, s7.out, rd_listV hfin, D9.out⟩
     case rest =>
      obtain ⟨a8, c8, rfl, hy9, hr9, h9⟩ := hcut
      obtain ⟨w9, hw9⟩ : ∃ x, x = wc := ⟨_, rfl⟩
      subst hw9
      clear hSS hra hce hcl hRel hx4 ry D45 hz5
      replace hr9 := hid hr9
      replace hy9 := hid hy9
      have hz4 := hid (lt_of_block r2.out)
      have hs49 := hid h9.size
      replace hs1 := hid (hs1.out.later h9)
      have N := hid h9
      clear h9
      replace D := hid (D.out.step N.out)
      replace r0 := hid ((N.out.block _ (lt_of_block r0.out)).trans r0.out)
      replace r1 := hid ((N.out.block _ (lt_of_block r1.out)).trans r1.out)
      replace r2 := hid ((N.out.block _ (lt_of_block r2.out)).trans r2.out)
      replace r3 := hid ((N.out.block _ (lt_of_block r3.out)).trans r3.out)
      clear N
      have r4 := hy9
      clear hy9
      have a0_0 := box_at (j := 0) r0.out rfl
      have a0_1 := box_at (j := 1) r0.out rfl
      have a0_2 := box_at (j := 2) r0.out rfl
      have a0_3 := box_at (j := 3) r0.out rfl
      have a0_4 := box_at (j := 4) r0.out rfl
      have a4_0 := box_at (j := 0) r4.out rfl
      have a4_1 := box_at (j := 1) r4.out rfl
      have a4_2 := box_at (j := 2) r4.out rfl
      have a4_3 := box_at (j := 3) r4.out rfl
      have a4_4 := box_at (j := 4) r4.out rfl
      go_wp2_with fail
      refine (hst.out l _ (fun c => Now w c ∨ From w4.heap.size w9 c) (listV (ql ++ [X0])) _ _ rfl D.out (fun c h => .inl h) (fun c h => h.elim (fun h => Nat.lt_of_lt_of_le h D.out.size) (fun h => h.2)) hr9.out hs1.out).mono ?_
      rintro e w10 ⟨cs10, rfl, h10, hr10⟩
      clear a0_0 a0_1 a0_2 a0_3 a0_4
      clear a4_0 a4_1 a4_2 a4_3 a4_4
      clear hr9
      have hs910 := hid h10.size
      have N := hid h10
      clear h10
      replace D := hid (D.out.step N.out)
      replace r0 := hid ((N.out.block _ (lt_of_block r0.out)).trans r0.out)
      replace r1 := hid ((N.out.block _ (lt_of_block r1.out)).trans r1.out)
      replace r2 := hid ((N.out.block _ (lt_of_block r2.out)).trans r2.out)
      replace r3 := hid ((N.out.block _ (lt_of_block r3.out)).trans r3.out)
      replace r4 := hid ((N.out.block _ (lt_of_block r4.out)).trans r4.out)
      clear N
      have htd := hid (rtold_calls (S := fun c => (Now w c ∨ From w4.heap.size w9 c) ∨ From w9.heap.size w10 c) (setR V l (listV (ql ++ [X0]))).1 hmll.out (setR V l (listV (ql ++ [X0]))).2 (fun c h => h.elim (fun h => h.elim (fun h => Nat.lt_of_lt_of_le h D.out.size) (fun h => Nat.lt_of_lt_of_le h.2 hs910.out)) (fun h => h.2)) hr10)
      rw [hR.out] at htd
      clear hR hmll hst
      generalize setR V l (listV (ql ++ [X0])) = Q at *
      obtain ⟨zv, ze⟩ := Q
      obtain ⟨zk, zn, zt, za, zl, zc, zf, zm, zg, rfl⟩ := hr10.five
      simp only at htd ⊢
      clear hr10
      go_wp2_with fail
      unfold TellR at htd
      refine htd.out.mono ?_
      rintro e w11 ⟨cs11, rfl, h11, hr11⟩
      obtain ⟨yk, yn, yt, ya, yl, yc, yf, ym, yg, rfl⟩ := hr11.five
      replace hr11 := hid hr11
      clear htd
      have hs1011 := hid h11.size
      have N := hid h11
      clear h11
      replace D := hid (D.out.step N.out)
      replace r0 := hid ((N.out.block _ (lt_of_block r0.out)).trans r0.out)
      replace r1 := hid ((N.out.block _ (lt_of_block r1.out)).trans r1.out)
      replace r2 := hid ((N.out.block _ (lt_of_block r2.out)).trans r2.out)
      replace r3 := hid ((N.out.block _ (lt_of_block r3.out)).trans r3.out)
      replace r4 := hid ((N.out.block _ (lt_of_block r4.out)).trans r4.out)
      clear N
      have c0 := box_at (j := 0) r2.out rfl
      have c1 := box_at (j := 1) r2.out rfl
      have c2 := box_at (j := 2) r2.out rfl
      have c3 := box_at (j := 3) r2.out rfl
      have c4 := box_at (j := 4) r2.out rfl
      have f0 := box_free r2.out
      go_wp2_with fail
      clear c0 c1 c2 c3 c4
      clear f0
      have hbz := hid (set5_below D.out (Nat.le_add_right w.heap.size 2) (.int .i64 yk) (.int .i64 yn) (.string yt) (.slice ya yl yc) (.slice yf ym yg))
      have rz := hid (set5_box (u0 := .int .i64 yk) (u1 := .int .i64 yn) (u2 := .string yt) (u3 := .slice ya yl yc) (u4 := .slice yf ym yg) r2.out)
      have hkp := hid (fun bq (hb : bq ≠ w.heap.size + 2) => set5_other w11 (w.heap.size + 2) (.int .i64 yk) (.int .i64 yn) (.string yt) (.slice ya yl yc) (.slice yf ym yg) (b := bq) hb)
      have hsz9 := hid (set5_size w11 (w.heap.size + 2) (.int .i64 yk) (.int .i64 yn) (.string yt) (.slice ya yl yc) (.slice yf ym yg))
      unfold set5 at hbz rz hkp hsz9
      generalize ((((w11.setCell ⟨w.heap.size + 2, 0, none⟩ (.int .i64 yk)).setCell ⟨w.heap.size + 2, 1, none⟩ (.int .i64 yn)).setCell ⟨w.heap.size + 2, 2, none⟩ (.string yt)).setCell ⟨w.heap.size + 2, 3, none⟩ (.slice ya yl yc)).setCell ⟨w.heap.size + 2, 4, none⟩ (.slice yf ym yg) = w12 at *
      have z0 := box_at (j := 0) rz.out rfl
      have z1 := box_at (j := 1) rz.out rfl
      have z2 := box_at (j := 2) rz.out rfl
      have z3 := box_at (j := 3) rz.out rfl
      have z4 := box_at (j := 4) rz.out rfl
      refine ⟨rfl, _, by simp [results, Tryz.results13, go_sem, z0, z1, z2, z3, z4] <;> exact ⟨rfl, rfl⟩, [.int .i64 yk, .int .i64 yn, .string yt, .slice ya yl yc, .slice yf ym yg], rfl, hbz.out, ?_⟩
      have e4 := hz4.out
      have e9 := hs49.out
      have e10 := hs910.out
      have e11 := hs1011.out
      exact tell_keep (g := w.heap.size + 2) hr11.out (fun c h => h.elim (fun h => h.elim (fun h => h.imp id (fun h => ⟨by have := h.1; omega, by have := h.2; omega⟩)) (fun h => .inr ⟨by have := h.1; omega, by have := h.2; omega⟩)) (fun h => .inr ⟨by have := h.1; omega, by have := h.2; omega⟩)) (Nat.le_add_right _ _) hkp.out hsz9.out
    ·have hki : (qk != 5) = true := by simp [hk5]
     obtain rfl := hF7l.out hk5
     clear hF7l hF0l hmll hst hs1 hLr4 hk5
     have k0 := box_at (j := 0) r3.out rfl
     have c0 := box_at (j := 0) r2.out rfl
     have c1 := box_at (j := 1) r2.out rfl
     have c2 := box_at (j := 2) r2.out rfl
     have c3 := box_at (j := 3) r2.out rfl
     have c4 := box_at (j := 4) r2.out rfl
     have f0 := box_free r2.out
     go_wp2_with fail
     clear c0 c1 c2 c3 c4
     clear f0
     have hbz := hid (set5_below D.out (Nat.le_add_right w.heap.size 2) (.int .i64 0) (.int .i64 0) (.string ⟨#[]⟩) (.slice none 0 0) (.slice none 0 0))
     have rz := hid (set5_box (u0 := .int .i64 0) (u1 := .int .i64 0) (u2 := .string ⟨#[]⟩) (u3 := .slice none 0 0) (u4 := .slice none 0 0) r2.out)
     have hkp := hid (fun bq (hb : bq ≠ w.heap.size + 2) => set5_other w4 (w.heap.size + 2) (.int .i64 0) (.int .i64 0) (.string ⟨#[]⟩) (.slice none 0 0) (.slice none 0 0) (b := bq) hb)
     have hsz9 := hid (set5_size w4 (w.heap.size + 2) (.int .i64 0) (.int .i64 0) (.string ⟨#[]⟩) (.slice none 0 0) (.slice none 0 0))
     unfold set5 at hbz rz hkp hsz9
     generalize ((((w4.setCell ⟨w.heap.size + 2, 0, none⟩ (.int .i64 0)).setCell ⟨w.heap.size + 2, 1, none⟩ (.int .i64 0)).setCell ⟨w.heap.size + 2, 2, none⟩ (.string ⟨#[]⟩)).setCell ⟨w.heap.size + 2, 3, none⟩ (.slice none 0 0)).setCell ⟨w.heap.size + 2, 4, none⟩ (.slice none 0 0) = w9 at *
     have z0 := box_at (j := 0) rz.out rfl
     have z1 := box_at (j := 1) rz.out rfl
     have z2 := box_at (j := 2) rz.out rfl
     have z3 := box_at (j := 3) rz.out rfl
     have z4 := box_at (j := 4) rz.out rfl
     refine ⟨rfl, _, by simp [results, Tryz.results13, go_sem, z0, z1, z2, z3, z4] <;> exact ⟨rfl, rfl⟩, [.int .i64 0, .int .i64 0, .string ⟨#[]⟩, .slice none 0 0, .slice none 0 0], rfl, hbz.out, ?_⟩
     exact rd_zeroP
  ·have hGi : (GX != 0) = true := by simp [hG0]
   obtain rfl := hF2.out (by simp) hG0
   clear hF2 hF8 hF7 hF0 hst hgt hml hgd hs1
   have c0 := box_at (j := 0) r2.out rfl
   have c1 := box_at (j := 1) r2.out rfl
   have c2 := box_at (j := 2) r2.out rfl
   have c3 := box_at (j := 3) r2.out rfl
   have c4 := box_at (j := 4) r2.out rfl
   have f0 := box_free r2.out
   go_wp2_with fail
   clear c0 c1 c2 c3 c4
   clear f0
   have hbz := hid (set5_below D.out (Nat.le_add_right w.heap.size 2) (.int .i64 0) (.int .i64 0) (.string ⟨#[]⟩) (.slice none 0 0) (.slice none 0 0))
   have rz := hid (set5_box (u0 := .int .i64 0) (u1 := .int .i64 0) (u2 := .string ⟨#[]⟩) (u3 := .slice none 0 0) (u4 := .slice none 0 0) r2.out)
   have hkp := hid (fun bq (hb : bq ≠ w.heap.size + 2) => set5_other w2 (w.heap.size + 2) (.int .i64 0) (.int .i64 0) (.string ⟨#[]⟩) (.slice none 0 0) (.slice none 0 0) (b := bq) hb)
   have hsz9 := hid (set5_size w2 (w.heap.size + 2) (.int .i64 0) (.int .i64 0) (.string ⟨#[]⟩) (.slice none 0 0) (.slice none 0 0))
   unfold set5 at hbz rz hkp hsz9
   generalize ((((w2.setCell ⟨w.heap.size + 2, 0, none⟩ (.int .i64 0)).setCell ⟨w.heap.size + 2, 1, none⟩ (.int .i64 0)).setCell ⟨w.heap.size + 2, 2, none⟩ (.string ⟨#[]⟩)).setCell ⟨w.heap.size + 2, 3, none⟩ (.slice none 0 0)).setCell ⟨w.heap.size + 2, 4, none⟩ (.slice none 0 0) = w9 at *
   have z0 := box_at (j := 0) rz.out rfl
   have z1 := box_at (j := 1) rz.out rfl
   have z2 := box_at (j := 2) rz.out rfl
   have z3 := box_at (j := 3) rz.out rfl
   have z4 := box_at (j := 4) rz.out rfl
   refine ⟨rfl, _, by simp [results, Tryz.results13, go_sem, z0, z1, z2, z3, z4] <;> exact ⟨rfl, rfl⟩, [.int .i64 0, .int .i64 0, .string ⟨#[]⟩, .slice none 0 0, .slice none 0 0], rfl, hbz.out, ?_⟩
   exact rd_zeroP
end Go.Proofs.YthjihdpleclejaaGreatDoor
