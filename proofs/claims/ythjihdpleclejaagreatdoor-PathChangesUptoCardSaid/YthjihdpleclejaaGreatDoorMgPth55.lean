/-
  Walk: the reference's Add. No condition.
-/
import Derived.Test.YthjihdpleclejaaGreatDoorMgPth49
namespace Go.Proofs.YthjihdpleclejaaGreatDoor
open Go.RowKit Go.Proofs
theorem toAdd_over {m : Int} {y : PVal} (h : y.k = 3) (h2 : y.n + m < -9223372036854775808 ∨ 9223372036854775807 < y.n + m) : toAdd m y = ⟨zeroP, false, 12⟩ := by unfold toAdd; rw [if_neg (by simp [h]), if_pos h2]
theorem rd_intV {w : World} {S : Nat → Prop} {m : Int} (h1 : -9223372036854775808 ≤ m ∧ m ≤ 9223372036854775807) : Rd w S (intV m) [.int .i64 3, .int .i64 m, .string ByteArray.empty, .slice none 0 0, .slice none 0 0] := rd_flat _ _ ⟨by decide, by decide⟩ h1 (by decide)
theorem wrap_over {a m : Int} (ha : -9223372036854775808 ≤ a ∧ a ≤ 9223372036854775807) (hm : -9223372036854775808 ≤ m ∧ m ≤ 9223372036854775807) : (0 < m ∧ IntKind.i64.wrap (a + m) < a ∨ m < 0 ∧ a < IntKind.i64.wrap (a + m)) ↔ (a + m < -9223372036854775808 ∨ 9223372036854775807 < a + m) := by
 by_cases h1 : a + m < -9223372036854775808
 ·have : IntKind.i64.wrap (a + m) = a + m + 18446744073709551616 := by rw [IntKind.wrap_i64]; omega
  rw [this]; omega
 ·by_cases h2 : 9223372036854775807 < a + m
  ·have : IntKind.i64.wrap (a + m) = a + m - 18446744073709551616 := by rw [IntKind.wrap_i64]; omega
   rw [this]; omega
  ·rw [IntWalk.i64_in _ (by omega)]; omega
set_option maxRecDepth 100000 in
set_option maxHeartbeats 16000000 in
theorem rAdd_calls (V : PVal) (m : Int) (hm : V.mass ≤ 33554432) (hmi : -9223372036854775808 ≤ m ∧ m ≤ 9223372036854775807) (pa : ByteArray) (hpa : pa.size ≤ 70368744177664) {w : World} {cs : List Value} (hV : Rd w (Now w) V cs) :
  Calls Tryz.prog 18 #[.agg cs.toArray, .string pa, .int .i64 m] w (TellR (Now w) (addP V pa m) w) := by
 have hF1 : Hid (askR V pa ≠ 0 → addP V pa m = (zeroP, askR V pa)) := fun h => by
  have h1 := ask_also (also := []) h
  unfold addP
  rw [thereU_ask (by rw [h1]; exact h), h1]
 have hF8 : Hid (∀ l, askS V pa = some l → getP V l = none → addP V pa m = (zeroP, 8)) := fun l h3 h4 => thereR_none (askS_is h3).2 (ask_nil (askS_is h3).2) (askS_is h3).1 h4
 have hFe : Hid (∀ l, askS V pa = some l → ∀ y, getP V l = some y → ∀ e, toAdd m y = ⟨zeroP, false, e⟩ → e ≠ 0 → addP V pa m = (zeroP, e)) := fun l h3 y h4 e h5 h6 => by
  have h7 := thereR_err (tf := toAdd m) (also := []) (askS_is h3).2 (ask_nil (askS_is h3).2) (askS_is h3).1 h4 (by rw [h5]; exact h6)
  unfold addP
  rw [h7, h5]
 have hF0 : Hid (∀ l, askS V pa = some l → ∀ y, getP V l = some y → toAdd m y = ⟨intV (y.n + m), false, 0⟩ → toldR (setR V l (intV (y.n + m))).1 (setR V l (intV (y.n + m))).2 = addP V pa m) := fun l h3 y h4 h5 => thereR_told hV.fits (askS_is h3).2 (ask_nil (askS_is h3).2) (askS_is h3).1 h4 h5
 have has := hid (fun (w' : World) (h : Below w.heap.size w w') => rasked_calls V (by omega) pa hpa (hV.later h))
 have hgt : Hid (∀ (l : List ByteArray) (w' : World) (sv : Value), askS V pa = some l → Below w.heap.size w w' → StrsAt w' (Now w') l sv → Calls Tryz.prog 37 #[.agg cs.toArray, sv] w' (Stepd (getP V l) (Now w) w')) := fun l w' sv h1 h2 h3 => rget_calls l V w' cs sv (Now w) (fun s hs => Nat.le_trans ((steps_small (askS_is h1).1).2 s hs) (by decide)) (fun c hc => Nat.lt_of_lt_of_le hc h2.size) (hV.keep (fun _ h => h) (fun c hc => h2.block c hc)) h3
 have hst : Hid (∀ (l : List ByteArray) (w' : World) (Y : PVal) (ys : List Value) (sv : Value), askS V pa = some l → Below w.heap.size w w' → Rd w' (Now w) Y ys → StrsAt w' (Now w') l sv → Calls Tryz.prog 36 #[.agg cs.toArray, sv, .agg ys.toArray] w' (TellR (Now w) (setR V l Y) w')) := fun l w' Y ys sv h1 h2 h5 h6 => rset_at hm h1 (fun c hc => Nat.lt_of_lt_of_le hc h2.size) (hV.keep (fun _ h => h) (fun c hc => h2.block c hc)) h5 h6
 have hml : Hid (∀ l, askS V pa = some l → ∀ j, (setR V l (intV j)).1.mass ≤ 1073741824) := fun l h j => by
  have h5 := rset_mass (v := V) (x := intV j) (p := pa) (l := l) (M := 33554432) hV.fits (ask_zero (askS_is h).2).1 (askS_is h).1 (by omega) hm (by simp [intV, PVal.mass, massL, massF, ByteArray.size])
  omega
 have hN : Hid (askS V pa = none → askR V pa ≠ 0) := askS_no
 have hA : Hid (∀ l, askS V pa = some l → askR V pa = 0) := fun l h => (askS_is h).2
 obtain ⟨TR, hTR⟩ : ∃ R, R = addP V pa m := ⟨_, rfl⟩
 rw [← hTR] at hF1 hF8 hFe hF0 ⊢
 obtain ⟨AS, hAS⟩ : ∃ R, R = askS V pa := ⟨_, rfl⟩
 rw [← hAS] at hF8 hFe hF0 has hgt hst hml hN hA
 obtain ⟨AR, hAR⟩ : ∃ R, R = askR V pa := ⟨_, rfl⟩
 rw [← hAR] at hF1 has hN hA
 clear hTR hAS hAR
 unfold TellR at hst ⊢
 unfold Stepd at hgt
 unfold AskedR at has
 obtain ⟨vk, vn, vt, va, vl, vc, vf, vm, vg, rfl⟩ := hV.five
 replace hmi := hid hmi
 clear hV hm hpa
 obtain ⟨W0, hW0⟩ : ∃ W0, W0 = (w.alloc (.cells #[.int .i64 vk, .int .i64 vn, .string vt, .slice va vl vc, .slice vf vm vg] 25)).alloc (.cells #[.int .i64 0, .int .i64 0, .string ⟨#[]⟩, .slice none 0 0, .slice none 0 0] 25) := ⟨_, rfl⟩
 have D : Hid (Below w.heap.size w W0) := by show Below _ _ _; rw [hW0]; exact ((below_new _ _).step (below_new _ _))
 have r0 : Hid (W0.heap[w.heap.size]? = some (.cells #[.int .i64 vk, .int .i64 vn, .string vt, .slice va vl vc, .slice vf vm vg] 25 (0, 0))) := by show _ = _; rw [hW0]; exact (al_old (al_at rfl))
 have r1 : Hid (W0.heap[w.heap.size + 1]? = some (.cells #[.int .i64 0, .int .i64 0, .string ⟨#[]⟩, .slice none 0 0, .slice none 0 0] 25 (0, 0))) := by show _ = _; rw [hW0]; exact (al_at (by simp))
 have hW0s : Hid (w.heap.size + 1 < W0.heap.size) := lt_of_block r1.out
 go_enter Tryz.func18, Tryz.ntmps18
 go_upto_region 1 with fail
 rw [← hW0]
 clear hW0
 have a0_0 := box_at (j := 0) r0.out rfl
 have a0_1 := box_at (j := 1) r0.out rfl
 have a0_2 := box_at (j := 2) r0.out rfl
 have a0_3 := box_at (j := 3) r0.out rfl
 have a0_4 := box_at (j := 4) r0.out rfl
 go_wp2_with fail
 refine (has.out _ D.out).mono ?_
 rintro e w1 ⟨h1, hres⟩
 clear a0_0 a0_1 a0_2 a0_3 a0_4
 have N := hid h1
 clear h1
 replace D := hid (D.out.step N.out)
 replace r0 := hid ((N.out.block _ (lt_of_block r0.out)).trans r0.out)
 replace r1 := hid ((N.out.block _ (lt_of_block r1.out)).trans r1.out)
 clear N
 cases AS with
 | none =>
  obtain rfl := hres
  have hA0 := hN.out rfl
  obtain rfl := hF1.out hA0
  have hAj : (AR != 0) = true := by simp [hA0]
  clear hF1 hF8 hFe hF0 hN hA hst hgt hml hA0 has
  have c0 := box_at (j := 0) r1.out rfl
  have c1 := box_at (j := 1) r1.out rfl
  have c2 := box_at (j := 2) r1.out rfl
  have c3 := box_at (j := 3) r1.out rfl
  have c4 := box_at (j := 4) r1.out rfl
  have f0 := box_free r1.out
  go_wp2_with fail
  clear c0 c1 c2 c3 c4
  clear f0
  have hbz := hid (set5_below D.out (Nat.le_add_right w.heap.size 1) (.int .i64 0) (.int .i64 0) (.string ⟨#[]⟩) (.slice none 0 0) (.slice none 0 0))
  have rz := hid (set5_box (u0 := .int .i64 0) (u1 := .int .i64 0) (u2 := .string ⟨#[]⟩) (u3 := .slice none 0 0) (u4 := .slice none 0 0) r1.out)
  have hkp := hid (fun bq (hb : bq ≠ w.heap.size + 1) => set5_other w1 (w.heap.size + 1) (.int .i64 0) (.int .i64 0) (.string ⟨#[]⟩) (.slice none 0 0) (.slice none 0 0) (b := bq) hb)
  have hsz9 := hid (set5_size w1 (w.heap.size + 1) (.int .i64 0) (.int .i64 0) (.string ⟨#[]⟩) (.slice none 0 0) (.slice none 0 0))
  unfold set5 at hbz rz hkp hsz9
  generalize ((((w1.setCell ⟨w.heap.size + 1, 0, none⟩ (.int .i64 0)).setCell ⟨w.heap.size + 1, 1, none⟩ (.int .i64 0)).setCell ⟨w.heap.size + 1, 2, none⟩ (.string ⟨#[]⟩)).setCell ⟨w.heap.size + 1, 3, none⟩ (.slice none 0 0)).setCell ⟨w.heap.size + 1, 4, none⟩ (.slice none 0 0) = w9 at *
  have z0 := box_at (j := 0) rz.out rfl
  have z1 := box_at (j := 1) rz.out rfl
  have z2 := box_at (j := 2) rz.out rfl
  have z3 := box_at (j := 3) rz.out rfl
  have z4 := box_at (j := 4) rz.out rfl
  refine ⟨rfl, _, by simp [results, Tryz.results18, go_sem, z0, z1, z2, z3, z4] <;> exact ⟨rfl, rfl⟩, [.int .i64 0, .int .i64 0, .string ⟨#[]⟩, .slice none 0 0, .slice none 0 0], rfl, hbz.out, ?_⟩
  exact rd_zeroP
 | some l =>
  obtain ⟨sv, rfl, hss⟩ := hres
  obtain rfl := hA.out l rfl
  have hs1 := hid (StrsAt.keep hss (S' := Now w1) (fun c h => h.2) (fun _ _ => rfl))
  clear hss hF1 has hN hA
  have a0_0 := box_at (j := 0) r0.out rfl
  have a0_1 := box_at (j := 1) r0.out rfl
  have a0_2 := box_at (j := 2) r0.out rfl
  have a0_3 := box_at (j := 3) r0.out rfl
  have a0_4 := box_at (j := 4) r0.out rfl
  go_wp2_with fail
  refine (hgt.out l _ _ rfl D.out hs1.out).mono ?_
  rintro e w2 ⟨cs3, rfl, h3, hr3⟩
  clear a0_0 a0_1 a0_2 a0_3 a0_4
  replace hs1 := hid (hs1.out.later h3)
  have N := hid h3
  clear h3
  replace D := hid (D.out.step N.out)
  replace r0 := hid ((N.out.block _ (lt_of_block r0.out)).trans r0.out)
  replace r1 := hid ((N.out.block _ (lt_of_block r1.out)).trans r1.out)
  clear N
  clear hgt
  obtain ⟨GP, hGP⟩ : ∃ R, R = getP V l := ⟨_, rfl⟩
  rw [← hGP] at hr3 ⊢
  cases GP with
  | none =>
   obtain rfl := hF8.out l rfl hGP.symm
   clear hF8 hFe hF0 hst hml hs1 hGP
   obtain ⟨qk, qn, qt, qa, ql, qc, qf, qm, qg, rfl⟩ := hr3.five
   clear hr3
   go_upto_region 5 with fail
   obtain ⟨w3, hw_⟩ : ∃ x, x = w2.alloc (.cells #[.int .i64 qk, .int .i64 qn, .string qt, .slice qa ql qc, .slice qf qm qg] 25) := ⟨_, rfl⟩
   have h_ : Below w2.heap.size w2 w3 := by rw [hw_]; exact below_new _ _
   have rn_ : Hid (w3.heap[w2.heap.size]? = some (.cells #[.int .i64 qk, .int .i64 qn, .string qt, .slice qa ql qc, .slice qf qm qg] 25 (0, 0))) := by show _ = _; rw [hw_]; exact heap_alloc_new _ _
   rw [← hw_]
   clear hw_
   have N := hid h_
   clear h_
   replace D := hid (D.out.step N.out)
   replace r0 := hid ((N.out.block _ (lt_of_block r0.out)).trans r0.out)
   replace r1 := hid ((N.out.block _ (lt_of_block r1.out)).trans r1.out)
   clear N
   have r3 := rn_
   clear rn_
   have c0 := box_at (j := 0) r1.out rfl
   have c1 := box_at (j := 1) r1.out rfl
   have c2 := box_at (j := 2) r1.out rfl
   have c3 := box_at (j := 3) r1.out rfl
   have c4 := box_at (j := 4) r1.out rfl
   have f0 := box_free r1.out
   go_wp2_with fail
   clear c0 c1 c2 c3 c4
   clear f0
   have hbz := hid (set5_below D.out (Nat.le_add_right w.heap.size 1) (.int .i64 0) (.int .i64 0) (.string ⟨#[]⟩) (.slice none 0 0) (.slice none 0 0))
   have rz := hid (set5_box (u0 := .int .i64 0) (u1 := .int .i64 0) (u2 := .string ⟨#[]⟩) (u3 := .slice none 0 0) (u4 := .slice none 0 0) r1.out)
   have hkp := hid (fun bq (hb : bq ≠ w.heap.size + 1) => set5_other w3 (w.heap.size + 1) (.int .i64 0) (.int .i64 0) (.string ⟨#[]⟩) (.slice none 0 0) (.slice none 0 0) (b := bq) hb)
   have hsz9 := hid (set5_size w3 (w.heap.size + 1) (.int .i64 0) (.int .i64 0) (.string ⟨#[]⟩) (.slice none 0 0) (.slice none 0 0))
   unfold set5 at hbz rz hkp hsz9
   generalize ((((w3.setCell ⟨w.heap.size + 1, 0, none⟩ (.int .i64 0)).setCell ⟨w.heap.size + 1, 1, none⟩ (.int .i64 0)).setCell ⟨w.heap.size + 1, 2, none⟩ (.string ⟨#[]⟩)).setCell ⟨w.heap.size + 1, 3, none⟩ (.slice none 0 0)).setCell ⟨w.heap.size + 1, 4, none⟩ (.slice none 0 0) = w9 at *
   have z0 := box_at (j := 0) rz.out rfl
   have z1 := box_at (j := 1) rz.out rfl
   have z2 := box_at (j := 2) rz.out rfl
   have z3 := box_at (j := 3) rz.out rfl
   have z4 := box_at (j := 4) rz.out rfl
   refine ⟨rfl, _, by simp [results, Tryz.results18, go_sem, z0, z1, z2, z3, z4] <;> exact ⟨rfl, rfl⟩, [.int .i64 0, .int .i64 0, .string ⟨#[]⟩, .slice none 0 0, .slice none 0 0], rfl, hbz.out, ?_⟩
   exact rd_zeroP
  | some old =>
   have hFel := hid (hFe.out l rfl old hGP.symm)
   have hF0l := hid (hF0.out l rfl old hGP.symm)
   clear hF8 hFe hF0 hGP
   obtain ⟨OV, hOV⟩ : ∃ V, V = old := ⟨_, rfl⟩
   rw [← hOV] at hFel hF0l
   obtain ⟨qk, qn, qt, ql, qfn, qfv⟩ := old
   simp only [Option.getD_some] at hr3
   obtain ⟨qa, qc, qf, qg, rfl, _, hqn, _⟩ := hr3.inv
   have hok := hid (show OV.k = qk from by rw [hOV]; rfl)
   have hon := hid (show OV.n = qn from by rw [hOV]; rfl)
   have hwo := hid (wrap_over hqn hmi.out)
   replace hqn := hid hqn
   clear hr3 hOV
   go_upto_region 5 with fail
   obtain ⟨w3, hw_⟩ : ∃ x, x = w2.alloc (.cells #[.int .i64 qk, .int .i64 qn, .string qt, .slice qa ql.length qc, .slice qf qfv.length qg] 25) := ⟨_, rfl⟩
   have h_ : Below w2.heap.size w2 w3 := by rw [hw_]; exact below_new _ _
   have rn_ : Hid (w3.heap[w2.heap.size]? = some (.cells #[.int .i64 qk, .int .i64 qn, .string qt, .slice qa ql.length qc, .slice qf qfv.length qg] 25 (0, 0))) := by show _ = _; rw [hw_]; exact heap_alloc_new _ _
   rw [← hw_]
   clear hw_
   have N := hid h_
   clear h_
   replace D := hid (D.out.step N.out)
   replace r0 := hid ((N.out.block _ (lt_of_block r0.out)).trans r0.out)
   replace r1 := hid ((N.out.block _ (lt_of_block r1.out)).trans r1.out)
   replace hs1 := hid (hs1.out.later N.out)
   clear N
   have r3 := rn_
   clear rn_
   by_cases hk3 : qk = 3
   ·have hki : (qk != 3) = false := by simp [hk3]
    have hok3 := hid (hok.out.trans hk3)
    replace hk3 := hid hk3
    have k0 := box_at (j := 0) r3.out rfl
    have k1 := box_at (j := 1) r3.out rfl
    go_upto_region 10 with fail
    clear k0 hki
    have hw6 : IntKind.i64.wrap (qn + m) = wrap64 (qn + m) := IntWalk.i64_left _
    obtain ⟨s, hs⟩ : ∃ s, s = wrap64 (qn + m) := ⟨_, rfl⟩
    rw [hw6, ← hs] at hwo
    rw [← hs]
    have hsum := hid (fun (h : ¬ (qn + m < -9223372036854775808 ∨ 9223372036854775807 < qn + m)) => (show s = qn + m from by rw [hs, ← hw6, IntWalk.i64_in _ (by omega)]))
    clear hs hw6
    obtain ⟨OB, hOB⟩ : ∃ b : Bool, b = true ↔ (qn + m < -9223372036854775808 ∨ 9223372036854775807 < qn + m) := ⟨decide (qn + m < -9223372036854775808 ∨ 9223372036854775807 < qn + m), decide_eq_true_iff⟩
    replace hOB := hid hOB
    go_upto_region 10 with fail
    go_cut [57] from 40 to 57 (fun s57 wx => s57 = .bool OB ∧ wx = w3)
    case first =>
     have hb := hOB.out.trans hwo.out.symm
     clear hOB hwo hsum hFel hF0l
     by_cases h1 : 0 < m
     ·have h2 : ¬ m < 0 := by omega
      by_cases h3 : s < qn
      ·obtain rfl : OB = true := hb.2 (.inl ⟨h1, h3⟩)
       clear hb
       go_wp2_with fail
       go_meet
       exact ⟨rfl, rfl⟩
      ·obtain rfl : OB = false := by
        cases OB with
        | false => rfl
        | true => have := hb.1 rfl; omega
       clear hb
       go_wp2_with fail
       go_meet
       exact ⟨rfl, rfl⟩
     ·by_cases h2 : m < 0
      ·by_cases h3 : qn < s
       ·obtain rfl : OB = true := hb.2 (.inr ⟨h2, h3⟩)
        clear hb
        go_wp2_with fail
        go_meet
        exact ⟨rfl, rfl⟩
       ·obtain rfl : OB = false := by
         cases OB with
         | false => rfl
         | true => have := hb.1 rfl; omega
        clear hb
        go_wp2_with fail
        go_meet
        exact ⟨rfl, rfl⟩
      ·obtain rfl : OB = false := by
        cases OB with
        | false => rfl
        | true => have := hb.1 rfl; omega
       clear hb
       go_wp2_with fail
       go_meet
       exact ⟨rfl, rfl⟩
    case rest =>
     obtain ⟨rfl, hww⟩ := hcut
     replace hww := hww.symm
     subst hww
     clear k1 hwo
     cases OB with
     | true =>
      obtain rfl := hFel.out _ (toAdd_over hok3.out (by rw [hon.out]; exact hOB.out.1 rfl)) (by decide)
      clear hFel hF0l hst hml hs1 hsum hOB hok hon hok3 hqn
      have c0 := box_at (j := 0) r1.out rfl
      have c1 := box_at (j := 1) r1.out rfl
      have c2 := box_at (j := 2) r1.out rfl
      have c3 := box_at (j := 3) r1.out rfl
      have c4 := box_at (j := 4) r1.out rfl
      have f0 := box_free r1.out
      go_wp2_with fail
      clear c0 c1 c2 c3 c4
      clear f0
      have hbz := hid (set5_below D.out (Nat.le_add_right w.heap.size 1) (.int .i64 0) (.int .i64 0) (.string ⟨#[]⟩) (.slice none 0 0) (.slice none 0 0))
      have rz := hid (set5_box (u0 := .int .i64 0) (u1 := .int .i64 0) (u2 := .string ⟨#[]⟩) (u3 := .slice none 0 0) (u4 := .slice none 0 0) r1.out)
      have hkp := hid (fun bq (hb : bq ≠ w.heap.size + 1) => set5_other w3 (w.heap.size + 1) (.int .i64 0) (.int .i64 0) (.string ⟨#[]⟩) (.slice none 0 0) (.slice none 0 0) (b := bq) hb)
      have hsz9 := hid (set5_size w3 (w.heap.size + 1) (.int .i64 0) (.int .i64 0) (.string ⟨#[]⟩) (.slice none 0 0) (.slice none 0 0))
      unfold set5 at hbz rz hkp hsz9
      generalize ((((w3.setCell ⟨w.heap.size + 1, 0, none⟩ (.int .i64 0)).setCell ⟨w.heap.size + 1, 1, none⟩ (.int .i64 0)).setCell ⟨w.heap.size + 1, 2, none⟩ (.string ⟨#[]⟩)).setCell ⟨w.heap.size + 1, 3, none⟩ (.slice none 0 0)).setCell ⟨w.heap.size + 1, 4, none⟩ (.slice none 0 0) = w9 at *
      have z0 := box_at (j := 0) rz.out rfl
      have z1 := box_at (j := 1) rz.out rfl
      have z2 := box_at (j := 2) rz.out rfl
      have z3 := box_at (j := 3) rz.out rfl
      have z4 := box_at (j := 4) rz.out rfl
      refine ⟨rfl, _, by simp [results, Tryz.results18, go_sem, z0, z1, z2, z3, z4] <;> exact ⟨rfl, rfl⟩, [.int .i64 0, .int .i64 0, .string ⟨#[]⟩, .slice none 0 0, .slice none 0 0], rfl, hbz.out, ?_⟩
      exact rd_zeroP
     | false =>
      have hin : ¬ (qn + m < -9223372036854775808 ∨ 9223372036854775807 < qn + m) := fun h => by have := hOB.out.2 h; cases this
      obtain rfl := hsum.out hin
      have hR := hid (hF0l.out (toAdd_sum hok3.out (by rw [hon.out]; exact hin)))
      rw [hon.out] at hR
      have hyi := hid (show -9223372036854775808 ≤ qn + m ∧ qn + m ≤ 9223372036854775807 from by omega)
      generalize qn + m = s at *
      clear hFel hF0l hsum hOB hin hok hon hok3 hqn
      have hz3 := hid (lt_of_block r1.out)
      have hd3 := hid D.out.size
      have a0_0 := box_at (j := 0) r0.out rfl
      have a0_1 := box_at (j := 1) r0.out rfl
      have a0_2 := box_at (j := 2) r0.out rfl
      have a0_3 := box_at (j := 3) r0.out rfl
      have a0_4 := box_at (j := 4) r0.out rfl
      go_wp2_with fail
      refine (hst.out l _ (intV s) [.int .i64 3, .int .i64 s, .string ByteArray.empty, .slice none 0 0, .slice none 0 0] _ rfl D.out (rd_intV hyi.out) hs1.out).mono ?_
      rintro e w4 ⟨cs10, rfl, h10, hr10⟩
      clear a0_0 a0_1 a0_2 a0_3 a0_4
      have hs34 := hid h10.size
      have N := hid h10
      clear h10
      replace D := hid (D.out.step N.out)
      replace r0 := hid ((N.out.block _ (lt_of_block r0.out)).trans r0.out)
      replace r1 := hid ((N.out.block _ (lt_of_block r1.out)).trans r1.out)
      replace r3 := hid ((N.out.block _ (lt_of_block r3.out)).trans r3.out)
      clear N
      have htd := hid (rtold_calls (S := fun c => Now w c ∨ From w3.heap.size w4 c) (setR V l (intV s)).1 (hml.out l rfl s) (setR V l (intV s)).2 (fun c h => h.elim (fun h => Nat.lt_of_lt_of_le h D.out.size) (fun h => h.2)) hr10)
      rw [hR.out] at htd
      clear hR hml hst
      generalize setR V l (intV s) = Q at *
      obtain ⟨zv, ze⟩ := Q
      obtain ⟨zk, zn, zt, za, zl, zc, zf, zm, zg, rfl⟩ := hr10.five
      simp only at htd ⊢
      clear hr10
      go_wp2_with fail
      unfold TellR at htd
      refine htd.out.mono ?_
      rintro e w5 ⟨cs11, rfl, h11, hr11⟩
      obtain ⟨yk, yn, yt, ya, yl, yc, yf, ym, yg, rfl⟩ := hr11.five
      replace hr11 := hid hr11
      clear htd
      have hs45 := hid h11.size
      have N := hid h11
      clear h11
      replace D := hid (D.out.step N.out)
      replace r0 := hid ((N.out.block _ (lt_of_block r0.out)).trans r0.out)
      replace r1 := hid ((N.out.block _ (lt_of_block r1.out)).trans r1.out)
      replace r3 := hid ((N.out.block _ (lt_of_block r3.out)).trans r3.out)
      clear N
      have c0 := box_at (j := 0) r1.out rfl
      have c1 := box_at (j := 1) r1.out rfl
      have c2 := box_at (j := 2) r1.out rfl
      have c3 := box_at (j := 3) r1.out rfl
      have c4 := box_at (j := 4) r1.out rfl
      have f0 := box_free r1.out
      go_wp2_with fail
      clear c0 c1 c2 c3 c4
      clear f0
      have hbz := hid (set5_below D.out (Nat.le_add_right w.heap.size 1) (.int .i64 yk) (.int .i64 yn) (.string yt) (.slice ya yl yc) (.slice yf ym yg))
      have rz := hid (set5_box (u0 := .int .i64 yk) (u1 := .int .i64 yn) (u2 := .string yt) (u3 := .slice ya yl yc) (u4 := .slice yf ym yg) r1.out)
      have hkp := hid (fun bq (hb : bq ≠ w.heap.size + 1) => set5_other w5 (w.heap.size + 1) (.int .i64 yk) (.int .i64 yn) (.string yt) (.slice ya yl yc) (.slice yf ym yg) (b := bq) hb)
      have hsz9 := hid (set5_size w5 (w.heap.size + 1) (.int .i64 yk) (.int .i64 yn) (.string yt) (.slice ya yl yc) (.slice yf ym yg))
      unfold set5 at hbz rz hkp hsz9
      generalize ((((w5.setCell ⟨w.heap.size + 1, 0, none⟩ (.int .i64 yk)).setCell ⟨w.heap.size + 1, 1, none⟩ (.int .i64 yn)).setCell ⟨w.heap.size + 1, 2, none⟩ (.string yt)).setCell ⟨w.heap.size + 1, 3, none⟩ (.slice ya yl yc)).setCell ⟨w.heap.size + 1, 4, none⟩ (.slice yf ym yg) = w12 at *
      have z0 := box_at (j := 0) rz.out rfl
      have z1 := box_at (j := 1) rz.out rfl
      have z2 := box_at (j := 2) rz.out rfl
      have z3 := box_at (j := 3) rz.out rfl
      have z4 := box_at (j := 4) rz.out rfl
      refine ⟨rfl, _, by simp [results, Tryz.results18, go_sem, z0, z1, z2, z3, z4] <;> exact ⟨rfl, rfl⟩, [.int .i64 yk, .int .i64 yn, .string yt, .slice ya yl yc, .slice yf ym yg], rfl, hbz.out, ?_⟩
      have e1 := hz3.out
      have e2 := hd3.out
      have e3 := hs34.out
      have e4 := hs45.out
      exact tell_keep (g := w.heap.size + 1) hr11.out (fun c h => h.elim (fun h => h.imp id (fun h => ⟨by have := h.1; omega, by have := h.2; omega⟩)) (fun h => .inr ⟨by have := h.1; omega, by have := h.2; omega⟩)) (Nat.le_add_right _ _) hkp.out hsz9.out
   ·have hki : (qk != 3) = true := by simp [hk3]
    obtain rfl := hFel.out 7 (toAdd_kind (by rw [hok.out]; exact hk3)) (by decide)
    clear hFel hF0l hml hst hs1 hk3 hok hon hqn hwo
    have k0 := box_at (j := 0) r3.out rfl
    have c0 := box_at (j := 0) r1.out rfl
    have c1 := box_at (j := 1) r1.out rfl
    have c2 := box_at (j := 2) r1.out rfl
    have c3 := box_at (j := 3) r1.out rfl
    have c4 := box_at (j := 4) r1.out rfl
    have f0 := box_free r1.out
    go_wp2_with fail
    clear c0 c1 c2 c3 c4
    clear f0
    have hbz := hid (set5_below D.out (Nat.le_add_right w.heap.size 1) (.int .i64 0) (.int .i64 0) (.string ⟨#[]⟩) (.slice none 0 0) (.slice none 0 0))
    have rz := hid (set5_box (u0 := .int .i64 0) (u1 := .int .i64 0) (u2 := .string ⟨#[]⟩) (u3 := .slice none 0 0) (u4 := .slice none 0 0) r1.out)
    have hkp := hid (fun bq (hb : bq ≠ w.heap.size + 1) => set5_other w3 (w.heap.size + 1) (.int .i64 0) (.int .i64 0) (.string ⟨#[]⟩) (.slice none 0 0) (.slice none 0 0) (b := bq) hb)
    have hsz9 := hid (set5_size w3 (w.heap.size + 1) (.int .i64 0) (.int .i64 0) (.string ⟨#[]⟩) (.slice none 0 0) (.slice none 0 0))
    unfold set5 at hbz rz hkp hsz9
    generalize ((((w3.setCell ⟨w.heap.size + 1, 0, none⟩ (.int .i64 0)).setCell ⟨w.heap.size + 1, 1, none⟩ (.int .i64 0)).setCell ⟨w.heap.size + 1, 2, none⟩ (.string ⟨#[]⟩)).setCell ⟨w.heap.size + 1, 3, none⟩ (.slice none 0 0)).setCell ⟨w.heap.size + 1, 4, none⟩ (.slice none 0 0) = w9 at *
    have z0 := box_at (j := 0) rz.out rfl
    have z1 := box_at (j := 1) rz.out rfl
    have z2 := box_at (j := 2) rz.out rfl
    have z3 := box_at (j := 3) rz.out rfl
    have z4 := box_at (j := 4) rz.out rfl
    refine ⟨rfl, _, by simp [results, Tryz.results18, go_sem, z0, z1, z2, z3, z4] <;> exact ⟨rfl, rfl⟩, [.int .i64 0, .int .i64 0, .string ⟨#[]⟩, .slice none 0 0, .slice none 0 0], rfl, hbz.out, ?_⟩
    exact rd_zeroP
end Go.Proofs.YthjihdpleclejaaGreatDoor
