/-
  Walk: a value with a change at the end of steps.
-/
import Derived.Test.YthjihdpleclejaaGreatDoorMgPth17
import Derived.Test.YthjihdpleclejaaGreatDoorMgPth18
namespace Go.Proofs.YthjihdpleclejaaGreatDoor
open Go.RowKit Go.Proofs
set_option maxRecDepth 100000 in
set_option maxHeartbeats 16000000 in
theorem at_calls {S : Nat → Prop} {W : World} {kf : FuncId} {caps : Array Value} {tf : PVal → Chg} {lays : Bool} (hSW : ∀ c, S c → c < W.heap.size) (hgo : ∀ (args : Array Value) (w : World), (callFunc kf args).run Tryz.prog w = .ok (.enter kf args) w) (hto : Turns S W kf caps tf) :
  ∀ (ss : List ByteArray), (∀ x ∈ ss, x.size ≤ 140737488355328) → AtC S W kf caps tf lays ss
 | [], _ => by
  intro V w cs b sv hW hso hm hV hss
  unfold Turns Told at hto
  unfold Told
  rw [atP]
  have hto0 := hid (fun w' (h : Below w.heap.size w w') => hto V w' cs b (hW.trans (h.mono hW.size)) hm (hV.keep (fun _ h => h) (fun c hc => h.block c (Nat.lt_of_lt_of_le (hSW c hc) hW.size))))
  obtain ⟨q, hq⟩ : ∃ q, q = tf V := ⟨_, rfl⟩
  rw [← hq] at hto0 ⊢
  have hSw := hid (fun c (h : S c) => Nat.lt_of_lt_of_le (hSW c h) hW.size)
  obtain ⟨qv, qg, qe⟩ := q
  obtain ⟨k, n, str, l, fn, fv⟩ := V
  obtain ⟨la, lc, fa, fc, rfl, _⟩ := hV.inv
  obtain ⟨sa, sc, rfl, _⟩ := hss
  clear hto hq hV hso hm hW
  simp only [List.length_nil]
  obtain ⟨W0, hW0⟩ : ∃ W0, W0 = ((w.alloc (.cells #[.func (.func kf) #[] caps, .bool lays] 50)).alloc (.cells #[.int .i64 k, .int .i64 n, .string str, .slice la l.length lc, .slice fa fv.length fc] 25)).alloc (.cells #[.int .i64 0, .int .i64 0, .string ⟨#[]⟩, .slice none 0 0, .slice none 0 0] 25) := ⟨_, rfl⟩
  have D : Hid (Below w.heap.size w W0) := by show Below _ _ _; rw [hW0]; exact ((below_new _ _).step (below_new _ _)).step (below_new _ _)
  have r0 : Hid (W0.heap[w.heap.size]? = some (.cells #[.func (.func kf) #[] caps, .bool lays] 50 (0, 0))) := by show _ = _; rw [hW0]; exact al_old (al_old (al_at rfl))
  have r1 : Hid (W0.heap[w.heap.size + 1]? = some (.cells #[.int .i64 k, .int .i64 n, .string str, .slice la l.length lc, .slice fa fv.length fc] 25 (0, 0))) := by show _ = _; rw [hW0]; exact al_old (al_at (by simp))
  have r2 : Hid (W0.heap[w.heap.size + 2]? = some (.cells #[.int .i64 0, .int .i64 0, .string ⟨#[]⟩, .slice none 0 0, .slice none 0 0] 25 (0, 0))) := by show _ = _; rw [hW0]; exact al_at (by simp)
  have hW0s : Hid (W0.heap.size = w.heap.size + 3) := by show _ = _; rw [hW0]; simp
  go_enter Tryz.func44, Tryz.ntmps44
  go_upto_region 1 with fail
  rw [← hW0]
  clear hW0
  have d0 := box_at (j := 0) r0.out rfl
  have d1 := box_at (j := 1) r0.out rfl
  have b0 := box_at (j := 0) r1.out rfl
  have b1 := box_at (j := 1) r1.out rfl
  have b2 := box_at (j := 2) r1.out rfl
  have b3 := box_at (j := 3) r1.out rfl
  have b4 := box_at (j := 4) r1.out rfl
  go_wp2_with fail
  clear d0 d1
  clear b0 b1 b2 b3 b4
  refine (hto0.out _ D.out).mono ?_
  rintro e w1 ⟨cs4, rfl, h1, hr⟩
  obtain ⟨zk, zn, zt, zl, zfn, zfv⟩ := qv
  obtain ⟨qa, qc, pa, pc, rfl, _⟩ := hr.inv
  replace hr := hid hr
  have D1 := hid (D.out.step h1)
  have q2 := hid ((h1.block _ (lt_of_block r2.out)).trans r2.out)
  clear h1 hto0
  have c0 := box_at (j := 0) q2.out rfl
  have c1 := box_at (j := 1) q2.out rfl
  have c2 := box_at (j := 2) q2.out rfl
  have c3 := box_at (j := 3) q2.out rfl
  have c4 := box_at (j := 4) q2.out rfl
  have f0 := box_free q2.out
  go_wp2_with fail
  clear c0 c1 c2 c3 c4
  clear f0
  have hbz := hid (set5_below D1.out (Nat.le_add_right w.heap.size 2) (.int .i64 zk) (.int .i64 zn) (.string zt) (.slice qa zl.length qc) (.slice pa zfv.length pc))
  have rz := hid (set5_box (u0 := .int .i64 zk) (u1 := .int .i64 zn) (u2 := .string zt) (u3 := .slice qa zl.length qc) (u4 := .slice pa zfv.length pc) q2.out)
  have hkp := hid (fun b (hb : b ≠ w.heap.size + 2) => set5_other w1 (w.heap.size + 2) (.int .i64 zk) (.int .i64 zn) (.string zt) (.slice qa zl.length qc) (.slice pa zfv.length pc) (b := b) hb)
  have hsz9 := hid (set5_size w1 (w.heap.size + 2) (.int .i64 zk) (.int .i64 zn) (.string zt) (.slice qa zl.length qc) (.slice pa zfv.length pc))
  unfold set5 at hbz rz hkp hsz9
  generalize ((((w1.setCell ⟨w.heap.size + 2, 0, none⟩ (.int .i64 zk)).setCell ⟨w.heap.size + 2, 1, none⟩ (.int .i64 zn)).setCell ⟨w.heap.size + 2, 2, none⟩ (.string zt)).setCell ⟨w.heap.size + 2, 3, none⟩ (.slice qa zl.length qc)).setCell ⟨w.heap.size + 2, 4, none⟩ (.slice pa zfv.length pc) = w9 at *
  have z0 := box_at (j := 0) rz.out rfl
  have z1 := box_at (j := 1) rz.out rfl
  have z2 := box_at (j := 2) rz.out rfl
  have z3 := box_at (j := 3) rz.out rfl
  have z4 := box_at (j := 4) rz.out rfl
  refine ⟨rfl, _, by simp [results, Tryz.results44, go_sem, z0, z1, z2, z3, z4] <;> exact ⟨rfl, rfl⟩, [.int .i64 zk, .int .i64 zn, .string zt, .slice qa zl.length qc, .slice pa zfv.length pc], rfl, hbz.out, ?_⟩
  exact hr.out.keep (fun c h => h.imp id (fun h => ⟨by have := h.1; have := hW0s.out; omega, by rw [hsz9.out]; exact h.2⟩)) (fun c hc => hkp.out c (hc.elim (fun h => by have := hSw.out c h; omega) (fun h => by have := h.1; have := hW0s.out; omega)))
 | s :: r, hsz => by
  have ih := at_calls (lays := lays) hSW hgo hto r (fun x hx => hsz x (by simp [hx]))
  intro V w cs b sv hW hso hm hV hss
  by_cases hcase : place s = none ∧ V.k = 6
  ·by_cases hfx : V.fn[posP s V.fn]? = some s
   ·exact atThere_calls hSW ih hW hso hm hV (hsz s (by simp)) hcase.1 hcase.2 hfx hss
   ·exact atNew_calls hSW ih hW hso hm hV (hsz s (by simp)) hcase.1 hcase.2 hfx hss
  replace hcase := hid hcase
  have hpl := hid (fun w => place_calls s w (hsz s (by simp)))
  have hssz := hid (hsz s (by simp))
  have hSw := hid (fun c (h : S c) => Nat.lt_of_lt_of_le (hSW c h) hW.size)
  have hWi := hid (fun m y hQ hk hy w' (h : Below w.heap.size w w') => within_calls (s := s) (sv := sv) (m := m) (y := y) hSW ih (hW.trans (h.mono hW.size)) hso hm (hV.keep (w' := w') (S' := S) (fun _ h => h) (fun c hc => h.block c (hSw.out c hc))) hk hy (hss.later h) |> (atP_inL (tf := tf) (lays := lays) (v := V) (y := y) (s := s) (r := r) (n := m) hQ hk hy ▸ ·))
  have hfd := hid (fun (w' : World) (h : Below w.heap.size w w') => field_calls s (w := w') (V := V) (cs := cs) (S := S) (fun c hc => Nat.lt_of_lt_of_le (hSw.out c hc) h.size) (hV.keep (S' := S) (fun _ h => h) (fun c hc => h.block c (hSw.out c hc))) hso.up)
  obtain ⟨R, hR⟩ : ∃ R, R = atP tf lays V (s :: r) := ⟨_, rfl⟩
  rw [← hR] at hWi ⊢
  unfold AtC Told at ih
  unfold Told at hWi
  unfold Told
  have ih0 := hid ih
  have hfp := hid (find_pos s V.fn V.fv hso.up)
  have hfl := hid hso.len
  have hso0 := hid hso
  have hm0 := hid hm
  have hW9 := hid hW
  have hV0 := hid hV
  replace hR := hid hR
  obtain ⟨Q, hQ⟩ : ∃ Q, Q = place s := ⟨_, rfl⟩
  rw [← hQ] at hpl
  replace hQ := hid hQ.symm
  clear ih hso hm hW hsz
  obtain ⟨k, n, str, l, fn, fv⟩ := V
  obtain ⟨la, lc, fa, fc, rfl, _, _, _, _, _, _, _, _, hF⟩ := hV.inv
  replace hF := hid hF
  obtain ⟨sa, sc, rfl, _⟩ := id hss
  obtain ⟨sb, so, rfl, hn1, hsc1, hsc2, hsb, hsc⟩ := hss.head
  have hss0 := hid hss
  clear hV hss hn1
  simp only [List.length_cons] at hss0 hWi ⊢
  obtain ⟨W0, hW0⟩ : ∃ W0, W0 = ((w.alloc (.cells #[.func (.func kf) #[] caps, .bool lays] 50)).alloc (.cells #[.int .i64 k, .int .i64 n, .string str, .slice la l.length lc, .slice fa fv.length fc] 25)).alloc (.cells #[.int .i64 0, .int .i64 0, .string ⟨#[]⟩, .slice none 0 0, .slice none 0 0] 25) := ⟨_, rfl⟩
  have D : Hid (Below w.heap.size w W0) := by show Below _ _ _; rw [hW0]; exact ((below_new _ _).step (below_new _ _)).step (below_new _ _)
  have r0 : Hid (W0.heap[w.heap.size]? = some (.cells #[.func (.func kf) #[] caps, .bool lays] 50 (0, 0))) := by show _ = _; rw [hW0]; exact al_old (al_old (al_at rfl))
  have r1 : Hid (W0.heap[w.heap.size + 1]? = some (.cells #[.int .i64 k, .int .i64 n, .string str, .slice la l.length lc, .slice fa fv.length fc] 25 (0, 0))) := by show _ = _; rw [hW0]; exact al_old (al_at (by simp))
  have r2 : Hid (W0.heap[w.heap.size + 2]? = some (.cells #[.int .i64 0, .int .i64 0, .string ⟨#[]⟩, .slice none 0 0, .slice none 0 0] 25 (0, 0))) := by show _ = _; rw [hW0]; exact al_at (by simp)
  have hW0s : Hid (W0.heap.size = w.heap.size + 3) := by show _ = _; rw [hW0]; simp
  have s0 := (D.out.cell (p := ⟨sb, so, none⟩) hsb).trans hsc
  replace hsc := hid hsc
  replace hsb := hid hsb
  have hrn : ¬ ((r.length : Int) + 1 = 0) := by omega
  have hrp : (0 : Int) < (r.length : Int) + 1 := by omega
  go_enter Tryz.func44, Tryz.ntmps44
  go_upto_region 1 with fail
  rw [← hW0]
  clear hW0
  go_wp2_with fail
  refine (hpl.out _).mono ?_
  rintro e w1 ⟨pn, rfl, h1, hpn⟩
  have D1 := hid (D.out.step h1)
  have q0 := hid ((h1.block _ (lt_of_block r0.out)).trans r0.out)
  have q1 := hid ((h1.block _ (lt_of_block r1.out)).trans r1.out)
  have q2 := hid ((h1.block _ (lt_of_block r2.out)).trans r2.out)
  clear s0 hpl h1
  cases Q with
  | some m =>
   obtain rfl : pn = (m : Int) := hpn m rfl
   clear hpn hfd
   by_cases hk : k = 5
   ·subst hk
    by_cases hml : m < l.length
    ·obtain ⟨y, hy⟩ : ∃ y, l[m]? = some y := ⟨_, List.getElem?_eq_getElem hml⟩
     have hmi : ¬ (l.length : Int) ≤ (m : Int) := by omega
     have hmj : (m : Int) < (l.length : Int) := by omega
     have hwc := hid (fun w' (h : Below w.heap.size w w') => hWi.out m y hQ.out rfl hy w' h)
     clear hWi ih0 hy
     have d0 := box_at (j := 0) q0.out rfl
     have d1 := box_at (j := 1) q0.out rfl
     have b0 := box_at (j := 0) q1.out rfl
     have b1 := box_at (j := 1) q1.out rfl
     have b2 := box_at (j := 2) q1.out rfl
     have b3 := box_at (j := 3) q1.out rfl
     have b4 := box_at (j := 4) q1.out rfl
     go_wp2_with fail
     clear d0 d1
     clear b0 b1 b2 b3 b4
     refine (hwc.out _ D1.out).mono ?_
     rintro e w4 ⟨cs4, rfl, h4, hr⟩
     obtain ⟨qv, qg, qe⟩ := R
     obtain ⟨zk, zn, zt, zl, zfn, zfv⟩ := qv
     obtain ⟨qa, qc, pa, pc, rfl, _⟩ := hr.inv
     replace hr := hid hr
     have D4 := hid (D1.out.step h4)
     have p2 := hid ((h4.block _ (lt_of_block q2.out)).trans q2.out)
     have hsz1 := hid D1.out.size
     have hsz1' : Hid (w.heap.size + 2 < w1.heap.size) := lt_of_block q2.out
     clear h4 hwc
     have c0 := box_at (j := 0) p2.out rfl
     have c1 := box_at (j := 1) p2.out rfl
     have c2 := box_at (j := 2) p2.out rfl
     have c3 := box_at (j := 3) p2.out rfl
     have c4 := box_at (j := 4) p2.out rfl
     have f0 := box_free p2.out
     go_wp2_with fail
     clear c0 c1 c2 c3 c4
     clear f0
     have hbz := hid (set5_below D4.out (Nat.le_add_right w.heap.size 2) (.int .i64 zk) (.int .i64 zn) (.string zt) (.slice qa zl.length qc) (.slice pa zfv.length pc))
     have rz := hid (set5_box (u0 := .int .i64 zk) (u1 := .int .i64 zn) (u2 := .string zt) (u3 := .slice qa zl.length qc) (u4 := .slice pa zfv.length pc) p2.out)
     have hkp := hid (fun b (hb : b ≠ w.heap.size + 2) => set5_other w4 (w.heap.size + 2) (.int .i64 zk) (.int .i64 zn) (.string zt) (.slice qa zl.length qc) (.slice pa zfv.length pc) (b := b) hb)
     have hsz9 := hid (set5_size w4 (w.heap.size + 2) (.int .i64 zk) (.int .i64 zn) (.string zt) (.slice qa zl.length qc) (.slice pa zfv.length pc))
     unfold set5 at hbz rz hkp hsz9
     generalize ((((w4.setCell ⟨w.heap.size + 2, 0, none⟩ (.int .i64 zk)).setCell ⟨w.heap.size + 2, 1, none⟩ (.int .i64 zn)).setCell ⟨w.heap.size + 2, 2, none⟩ (.string zt)).setCell ⟨w.heap.size + 2, 3, none⟩ (.slice qa zl.length qc)).setCell ⟨w.heap.size + 2, 4, none⟩ (.slice pa zfv.length pc) = w9 at *
     have z0 := box_at (j := 0) rz.out rfl
     have z1 := box_at (j := 1) rz.out rfl
     have z2 := box_at (j := 2) rz.out rfl
     have z3 := box_at (j := 3) rz.out rfl
     have z4 := box_at (j := 4) rz.out rfl
     refine ⟨rfl, _, by simp [results, Tryz.results44, go_sem, z0, z1, z2, z3, z4] <;> exact ⟨rfl, rfl⟩, [.int .i64 zk, .int .i64 zn, .string zt, .slice qa zl.length qc, .slice pa zfv.length pc], rfl, hbz.out, ?_⟩
     exact hr.out.keep (fun c h => h.imp id (fun h => ⟨by have := h.1; have := hsz1.out; omega, by rw [hsz9.out]; exact h.2⟩)) (fun c hc => hkp.out c (hc.elim (fun h => by have := hSw.out c h; omega) (fun h => by have := h.1; have := hsz1'.out; omega)))
    ·have hmi : (l.length : Int) ≤ (m : Int) := by omega
     obtain rfl : R = ⟨zeroP, false, 8⟩ := by rw [hR.out]; exact atP_farL (v := .mk 5 n str l fn fv) hQ.out rfl (List.getElem?_eq_none (by simp only [PVal.l]; omega))
     clear hR hWi ih0
     have b0 := box_at (j := 0) q1.out rfl
     have b1 := box_at (j := 1) q1.out rfl
     have b2 := box_at (j := 2) q1.out rfl
     have b3 := box_at (j := 3) q1.out rfl
     have b4 := box_at (j := 4) q1.out rfl
     have c0 := box_at (j := 0) q2.out rfl
     have c1 := box_at (j := 1) q2.out rfl
     have c2 := box_at (j := 2) q2.out rfl
     have c3 := box_at (j := 3) q2.out rfl
     have c4 := box_at (j := 4) q2.out rfl
     have f0 := box_free q2.out
     go_wp2_with fail
     clear b0 b1 b2 b3 b4
     clear c0 c1 c2 c3 c4
     clear f0
     have hbz := hid (set5_below D1.out (Nat.le_add_right w.heap.size 2) (.int .i64 0) (.int .i64 0) (.string ⟨#[]⟩) (.slice none 0 0) (.slice none 0 0))
     have rz := hid (set5_box (u0 := .int .i64 0) (u1 := .int .i64 0) (u2 := .string ⟨#[]⟩) (u3 := .slice none 0 0) (u4 := .slice none 0 0) q2.out)
     have hkp := hid (fun b (hb : b ≠ w.heap.size + 2) => set5_other w1 (w.heap.size + 2) (.int .i64 0) (.int .i64 0) (.string ⟨#[]⟩) (.slice none 0 0) (.slice none 0 0) (b := b) hb)
     have hsz9 := hid (set5_size w1 (w.heap.size + 2) (.int .i64 0) (.int .i64 0) (.string ⟨#[]⟩) (.slice none 0 0) (.slice none 0 0))
     unfold set5 at hbz rz hkp hsz9
     generalize ((((w1.setCell ⟨w.heap.size + 2, 0, none⟩ (.int .i64 0)).setCell ⟨w.heap.size + 2, 1, none⟩ (.int .i64 0)).setCell ⟨w.heap.size + 2, 2, none⟩ (.string ⟨#[]⟩)).setCell ⟨w.heap.size + 2, 3, none⟩ (.slice none 0 0)).setCell ⟨w.heap.size + 2, 4, none⟩ (.slice none 0 0) = w9 at *
     have z0 := box_at (j := 0) rz.out rfl
     have z1 := box_at (j := 1) rz.out rfl
     have z2 := box_at (j := 2) rz.out rfl
     have z3 := box_at (j := 3) rz.out rfl
     have z4 := box_at (j := 4) rz.out rfl
     refine ⟨rfl, _, by simp [results, Tryz.results44, go_sem, z0, z1, z2, z3, z4] <;> exact ⟨rfl, rfl⟩, [.int .i64 0, .int .i64 0, .string ⟨#[]⟩, .slice none 0 0, .slice none 0 0], rfl, hbz.out, ?_⟩
     exact rd_zeroP
   ·have hki : (k != 5) = true := by simp [hk]
    obtain rfl : R = ⟨zeroP, false, 7⟩ := by rw [hR.out]; exact atP_kindL (v := .mk k n str l fn fv) hQ.out hk
    clear hR hWi ih0 hk
    have b0 := box_at (j := 0) q1.out rfl
    have b1 := box_at (j := 1) q1.out rfl
    have b2 := box_at (j := 2) q1.out rfl
    have b3 := box_at (j := 3) q1.out rfl
    have b4 := box_at (j := 4) q1.out rfl
    have c0 := box_at (j := 0) q2.out rfl
    have c1 := box_at (j := 1) q2.out rfl
    have c2 := box_at (j := 2) q2.out rfl
    have c3 := box_at (j := 3) q2.out rfl
    have c4 := box_at (j := 4) q2.out rfl
    have f0 := box_free q2.out
    go_wp2_with fail
    clear b0 b1 b2 b3 b4
    clear c0 c1 c2 c3 c4
    clear f0
    have hbz := hid (set5_below D1.out (Nat.le_add_right w.heap.size 2) (.int .i64 0) (.int .i64 0) (.string ⟨#[]⟩) (.slice none 0 0) (.slice none 0 0))
    have rz := hid (set5_box (u0 := .int .i64 0) (u1 := .int .i64 0) (u2 := .string ⟨#[]⟩) (u3 := .slice none 0 0) (u4 := .slice none 0 0) q2.out)
    have hkp := hid (fun b (hb : b ≠ w.heap.size + 2) => set5_other w1 (w.heap.size + 2) (.int .i64 0) (.int .i64 0) (.string ⟨#[]⟩) (.slice none 0 0) (.slice none 0 0) (b := b) hb)
    have hsz9 := hid (set5_size w1 (w.heap.size + 2) (.int .i64 0) (.int .i64 0) (.string ⟨#[]⟩) (.slice none 0 0) (.slice none 0 0))
    unfold set5 at hbz rz hkp hsz9
    generalize ((((w1.setCell ⟨w.heap.size + 2, 0, none⟩ (.int .i64 0)).setCell ⟨w.heap.size + 2, 1, none⟩ (.int .i64 0)).setCell ⟨w.heap.size + 2, 2, none⟩ (.string ⟨#[]⟩)).setCell ⟨w.heap.size + 2, 3, none⟩ (.slice none 0 0)).setCell ⟨w.heap.size + 2, 4, none⟩ (.slice none 0 0) = w9 at *
    have z0 := box_at (j := 0) rz.out rfl
    have z1 := box_at (j := 1) rz.out rfl
    have z2 := box_at (j := 2) rz.out rfl
    have z3 := box_at (j := 3) rz.out rfl
    have z4 := box_at (j := 4) rz.out rfl
    refine ⟨rfl, _, by simp [results, Tryz.results44, go_sem, z0, z1, z2, z3, z4] <;> exact ⟨rfl, rfl⟩, [.int .i64 0, .int .i64 0, .string ⟨#[]⟩, .slice none 0 0, .slice none 0 0], rfl, hbz.out, ?_⟩
    exact rd_zeroP
  | none =>
   clear hpn hWi
   by_cases hk : k = 6
   ·subst hk
    exact absurd ⟨hQ.out, rfl⟩ hcase.out
   ·have hki : (k != 6) = true := by simp [hk]
    obtain rfl : R = ⟨zeroP, false, 7⟩ := by rw [hR.out]; exact atP_kindF (v := .mk k n str l fn fv) hQ.out hk
    clear hR ih0 hk
    have b0 := box_at (j := 0) q1.out rfl
    have b1 := box_at (j := 1) q1.out rfl
    have b2 := box_at (j := 2) q1.out rfl
    have b3 := box_at (j := 3) q1.out rfl
    have b4 := box_at (j := 4) q1.out rfl
    have c0 := box_at (j := 0) q2.out rfl
    have c1 := box_at (j := 1) q2.out rfl
    have c2 := box_at (j := 2) q2.out rfl
    have c3 := box_at (j := 3) q2.out rfl
    have c4 := box_at (j := 4) q2.out rfl
    have f0 := box_free q2.out
    go_wp2_with fail
    clear b0 b1 b2 b3 b4
    clear c0 c1 c2 c3 c4
    clear f0
    have hbz := hid (set5_below D1.out (Nat.le_add_right w.heap.size 2) (.int .i64 0) (.int .i64 0) (.string ⟨#[]⟩) (.slice none 0 0) (.slice none 0 0))
    have rz := hid (set5_box (u0 := .int .i64 0) (u1 := .int .i64 0) (u2 := .string ⟨#[]⟩) (u3 := .slice none 0 0) (u4 := .slice none 0 0) q2.out)
    have hkp := hid (fun b (hb : b ≠ w.heap.size + 2) => set5_other w1 (w.heap.size + 2) (.int .i64 0) (.int .i64 0) (.string ⟨#[]⟩) (.slice none 0 0) (.slice none 0 0) (b := b) hb)
    have hsz9 := hid (set5_size w1 (w.heap.size + 2) (.int .i64 0) (.int .i64 0) (.string ⟨#[]⟩) (.slice none 0 0) (.slice none 0 0))
    unfold set5 at hbz rz hkp hsz9
    generalize ((((w1.setCell ⟨w.heap.size + 2, 0, none⟩ (.int .i64 0)).setCell ⟨w.heap.size + 2, 1, none⟩ (.int .i64 0)).setCell ⟨w.heap.size + 2, 2, none⟩ (.string ⟨#[]⟩)).setCell ⟨w.heap.size + 2, 3, none⟩ (.slice none 0 0)).setCell ⟨w.heap.size + 2, 4, none⟩ (.slice none 0 0) = w9 at *
    have z0 := box_at (j := 0) rz.out rfl
    have z1 := box_at (j := 1) rz.out rfl
    have z2 := box_at (j := 2) rz.out rfl
    have z3 := box_at (j := 3) rz.out rfl
    have z4 := box_at (j := 4) rz.out rfl
    refine ⟨rfl, _, by simp [results, Tryz.results44, go_sem, z0, z1, z2, z3, z4] <;> exact ⟨rfl, rfl⟩, [.int .i64 0, .int .i64 0, .string ⟨#[]⟩, .slice none 0 0, .slice none 0 0], rfl, hbz.out, ?_⟩
    exact rd_zeroP
end Go.Proofs.YthjihdpleclejaaGreatDoor
