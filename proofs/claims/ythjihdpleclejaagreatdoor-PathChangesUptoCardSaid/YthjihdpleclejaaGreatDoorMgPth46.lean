/-
  Walk: the reference's set, a Doc's field. No condition.
-/
import Derived.Test.YthjihdpleclejaaGreatDoorMgPth44
import Derived.Test.YthjihdpleclejaaGreatDoorMgPth14
namespace Go.Proofs.YthjihdpleclejaaGreatDoor
open Go.RowKit Go.Proofs
def BbS (g : Nat) (v0 v1 v2 v3 v4 : Value) (B : Nat) (u0 u1 u2 u3 u4 : Value) (x : World) : Prop := x.cell? ⟨g, 0, none⟩ = some v0 ∧ x.cell? ⟨g, 1, none⟩ = some v1 ∧ x.cell? ⟨g, 2, none⟩ = some v2 ∧ x.cell? ⟨g, 3, none⟩ = some v3 ∧ x.cell? ⟨g, 4, none⟩ = some v4 ∧ x.cell? ⟨B, 0, none⟩ = some u0 ∧ x.cell? ⟨B, 1, none⟩ = some u1 ∧ x.cell? ⟨B, 2, none⟩ = some u2 ∧ x.cell? ⟨B, 3, none⟩ = some u3 ∧ x.cell? ⟨B, 4, none⟩ = some u4
def BcS (A : Nat) (a0 a1 a2 a3 a4 : Value) (sb so : Nat) (s : ByteArray) (g : Nat) (v0 v1 v2 v3 v4 : Value) (x : World) : Prop := x.cell? ⟨A, 0, none⟩ = some a0 ∧ x.cell? ⟨A, 1, none⟩ = some a1 ∧ x.cell? ⟨A, 2, none⟩ = some a2 ∧ x.cell? ⟨A, 3, none⟩ = some a3 ∧ x.cell? ⟨A, 4, none⟩ = some a4 ∧ x.cell? ⟨sb, so, none⟩ = some (.string s) ∧ x.cell? ⟨g, 0, none⟩ = some v0 ∧ x.cell? ⟨g, 1, none⟩ = some v1 ∧ x.cell? ⟨g, 2, none⟩ = some v2 ∧ x.cell? ⟨g, 3, none⟩ = some v3 ∧ x.cell? ⟨g, 4, none⟩ = some v4
set_option maxRecDepth 100000 in
set_option maxHeartbeats 16000000 in
theorem rset_inF (V X0 : PVal) (s : ByteArray) (r : List ByteArray) (hz : s.size ≤ 140737488355328) (hp : place s = none) (hk6 : V.k = 6) (hm : V.mass ≤ 100000000000) {S : Nat → Prop} {w : World} {cs xs : List Value} {sv : Value} (hS : ∀ c, S c → c < w.heap.size) (hV : Rd w S V cs) (hx : Rd w S X0 xs) (hss : StrsAt w (Now w) (s :: r) sv)
  (ih : ∀ (w' : World) (ys xs' : List Value) (sv' : Value), (∀ c, S c → c < w'.heap.size) → Rd w' S ((findP s V.fn V.fv).getD docE) ys → Rd w' S X0 xs' → StrsAt w' (Now w') r sv' → Calls Tryz.prog 36 #[.agg ys.toArray, sv', .agg xs'.toArray] w' (TellR S (setR ((findP s V.fn V.fv).getD docE) r X0) w')) :
  Calls Tryz.prog 36 #[.agg cs.toArray, sv, .agg xs.toArray] w (TellR S (setR V (s :: r) X0) w) := by
 obtain ⟨R, hR⟩ : ∃ R, R = setR V (s :: r) X0 := ⟨_, rfl⟩
 rw [← hR]
 rw [setR, hp] at hR
 simp only [hk6, ne_eq, not_true_eq_false, if_false] at hR
 unfold TellR at ih ⊢
 obtain ⟨FO, hFO⟩ : ∃ Q, Q = findP s V.fn V.fv := ⟨_, rfl⟩
 rw [← hFO] at ih hR
 obtain ⟨OLD, hOLD⟩ : ∃ Q, Q = FO.getD docE := ⟨_, rfl⟩
 rw [← hOLD] at ih hR
 obtain ⟨Q, hQ⟩ : ∃ Q, Q = setR OLD r X0 := ⟨_, rfl⟩
 rw [← hQ] at ih hR
 obtain ⟨qv, qe⟩ := Q
 clear hQ
 simp only at ih hR
 replace ih := hid ih
 have hpl := hid (fun w => rplace_calls s w hz)
 unfold placeZ at hpl
 rw [hp] at hpl
 have hfd : Hid (∀ w', Below w.heap.size w w' → Calls Tryz.prog 65 #[.agg cs.toArray, .string s] w' fun e w2 => ∃ cs, e = .returned (.tuple #[.agg cs.toArray, .bool FO.isSome]) ∧ Below w'.heap.size w' w2 ∧ Rd w2 S (FO.getD zeroP) cs) := fun w' h => by
  have := rfind_calls s (w := w') (V := V) (cs := cs) (S := S) (fun b hb => Nat.lt_of_lt_of_le (hS b hb) h.size) (hV.keep (fun _ h => h) (fun b hb => h.block b (hS b hb)))
  unfold Stepd findV at this
  rw [if_pos hk6, ← hFO] at this
  exact this
 obtain ⟨sa, sc, rfl, _⟩ := id hss
 obtain ⟨sb, so, rfl, hn1, hsc1, hsc2, hsb, hsc⟩ := hss.head
 have hss0 := hid hss
 replace hsb := hid hsb
 have hsc0 := hid hsc
 clear hss hn1 hsc
 simp only [List.length_cons] at hss0 ⊢
 have hV0 := hid hV
 obtain ⟨VX, hVX⟩ : ∃ VX, VX = V := ⟨_, rfl⟩
 rw [← hVX] at hR hV0 hFO
 have hmX := hid (show VX.mass ≤ 100000000000 from by rw [hVX]; exact hm)
 replace hR := hid hR
 have hx0 := hid hx
 have hSw := hid hS
 obtain ⟨k, n0, str, l, fn, fv⟩ := V
 simp only [PVal.k] at hk6
 replace hk6 := hid hk6
 obtain ⟨la, lc, fa, fc, rfl, _⟩ := hV.inv
 replace hFO := hid hFO
 replace hOLD := hid hOLD
 clear hVX hm hp
 obtain ⟨uk, un, ut, ua, ul, uc, uf, um, ug, rfl⟩ := hx.five
 clear hV hx hS
 obtain ⟨W0, hW0⟩ : ∃ W0, W0 = ((w.alloc (.cells #[.int .i64 k, .int .i64 n0, .string str, .slice la l.length lc, .slice fa fv.length fc] 25)).alloc (.cells #[.int .i64 uk, .int .i64 un, .string ut, .slice ua ul uc, .slice uf um ug] 25)).alloc (.cells #[.int .i64 0, .int .i64 0, .string ⟨#[]⟩, .slice none 0 0, .slice none 0 0] 25) := ⟨_, rfl⟩
 have D : Hid (Below w.heap.size w W0) := by show Below _ _ _; rw [hW0]; exact ((below_new _ _).step (below_new _ _)).step (below_new _ _)
 have r3 : Hid (W0.heap[w.heap.size]? = some (.cells #[.int .i64 k, .int .i64 n0, .string str, .slice la l.length lc, .slice fa fv.length fc] 25 (0, 0))) := by show _ = _; rw [hW0]; exact al_old (al_old (al_at rfl))
 have r5 : Hid (W0.heap[w.heap.size + 1]? = some (.cells #[.int .i64 uk, .int .i64 un, .string ut, .slice ua ul uc, .slice uf um ug] 25 (0, 0))) := by show _ = _; rw [hW0]; exact al_old (al_at (by simp))
 have r6 : Hid (W0.heap[w.heap.size + 2]? = some (.cells #[.int .i64 0, .int .i64 0, .string ⟨#[]⟩, .slice none 0 0, .slice none 0 0] 25 (0, 0))) := by show _ = _; rw [hW0]; exact al_at (by simp)
 have hW0s : Hid (w.heap.size + 2 < W0.heap.size) := lt_of_block r6.out
 go_enter Tryz.func36, Tryz.ntmps36
 go_upto_region 1 with fail
 rw [← hW0]
 clear hW0
 have s0 := (World.cell?_of_block (w := w) (D.out.block sb hsb.out)).trans hsc0.out
 go_wp2_with fail
 refine (hpl.out _).mono ?_
 rintro e w1 ⟨rfl, hw1⟩
 subst hw1
 clear hpl s0
 have hmn : ¬ (0 : Int) ≤ (-1 : Int) := by omega
 have hki : (k != 6) = false := by simp [hk6.out]
 clear hk6
 have hr1 : (1 : Int) ≤ (r.length : Int) + 1 := by omega
 have a0 := box_at (j := 0) r3.out rfl
 go_upto_region 15 with fail
 clear a0 hki hmn
 have hSS : Hid (∀ x : World, (∀ b, b < w1.heap.size → x.heap[b]? = w1.heap[b]?) → RhS w.heap.size sb so (.int .i64 k) (.int .i64 n0) (.string str) (.slice la l.length lc) (.slice fa fv.length fc) s x) := fun x h => by
  have hB := (h _ (lt_of_block r3.out)).trans r3.out
  have hc := (World.cell?_of_block (w := w1) (a := ⟨sb, so, none⟩) (h sb (Nat.lt_of_lt_of_le hsb.out D.out.size))).trans ((D.out.cell (p := ⟨sb, _, none⟩) hsb.out).trans hsc0.out)
  exact ⟨box_at (j := 0) hB rfl, box_at (j := 1) hB rfl, box_at (j := 2) hB rfl, box_at (j := 3) hB rfl, box_at (j := 4) hB rfl, hc⟩
 go_cut [11, 12] from 59 to 66 (fun s11 s12 wx => ∃ (gx : Nat) (v0 v1 v2 v3 v4 : Value), s11 = .pointer (some ⟨gx, 0, none⟩) ∧ s12 = .bool FO.isSome ∧ wx.heap[gx]? = some (.cells #[v0, v1, v2, v3, v4] 25 (0, 0)) ∧ w1.heap.size ≤ gx ∧ Rd wx S (FO.getD zeroP) [v0, v1, v2, v3, v4] ∧ Below w1.heap.size w1 wx)
 case first =>
  refine wp_region_T (RhS w.heap.size sb so (.int .i64 k) (.int .i64 n0) (.string str) (.slice la l.length lc) (.slice fa fv.length fc) s) 10 (by kernel_rfl) ?_
  have hT0 := hSS.out w1.drew (fun _ _ => rfl)
  ((refine wpAnyT_take (i := 0) (v := ?_) rfl (by kernel_rfl) (by kernel_rfl) (by kernel_rfl) (by kernel_rfl) (by exact fun _ _ _ h => h) (Or.inl ⟨by kernel_rfl, ?_⟩) hT0 ?_; rotate_left 1; focus (intro w hSw; unfold RhS at hSw; (try dsimp only at hSw); go_simp; try with_reducible rfl); (try simp only [List.getElem_toArray, List.getElem_cons_zero, List.getElem_cons_succ, Act.put, List.setIfInBounds_toArray, List.set_cons_zero, List.set_cons_succ])); (refine wpAnyT_take (i := 1) (v := ?_) rfl (by kernel_rfl) (by kernel_rfl) (by kernel_rfl) (by kernel_rfl) (by exact fun _ _ _ h => h) (Or.inl ⟨by kernel_rfl, ?_⟩) hT0 ?_; rotate_left 1; focus (intro w hSw; unfold RhS at hSw; (try dsimp only at hSw); go_simp; try with_reducible rfl); (try simp only [List.getElem_toArray, List.getElem_cons_zero, List.getElem_cons_succ, Act.put, List.setIfInBounds_toArray, List.set_cons_zero, List.set_cons_succ])); (refine wpAnyT_take (i := 2) (v := ?_) rfl (by kernel_rfl) (by kernel_rfl) (by kernel_rfl) (by kernel_rfl) (by exact fun _ _ _ h => h) (Or.inl ⟨by kernel_rfl, ?_⟩) hT0 ?_; rotate_left 1; focus (intro w hSw; unfold RhS at hSw; (try dsimp only at hSw); go_simp; try with_reducible rfl); (try simp only [List.getElem_toArray, List.getElem_cons_zero, List.getElem_cons_succ, Act.put, List.setIfInBounds_toArray, List.set_cons_zero, List.set_cons_succ])); (refine wpAnyT_take (i := 3) (v := ?_) rfl (by kernel_rfl) (by kernel_rfl) (by kernel_rfl) (by kernel_rfl) (by exact fun _ _ _ h => h) (Or.inl ⟨by kernel_rfl, ?_⟩) hT0 ?_; rotate_left 1; focus (intro w hSw; unfold RhS at hSw; (try dsimp only at hSw); go_simp; try with_reducible rfl); (try simp only [List.getElem_toArray, List.getElem_cons_zero, List.getElem_cons_succ, Act.put, List.setIfInBounds_toArray, List.set_cons_zero, List.set_cons_succ])))
  refine wpAnyT_two (i := 4) (j := 8) (by kernel_rfl) rfl rfl (fun K hK => ?_) (fun K hK => ?_)
  ·go_simp
   refine (hfd.out w1.drew (D.out.trans ((Below.refl w1.heap.size w1).drew.mono D.out.size))).mono ?_
   rintro e w4 ⟨cs4, rfl, h4, hr4⟩
   have E := hid ((Below.refl w1.heap.size w1).drew.step h4)
   have hT1 := hSS.out w4 E.out.block
   obtain ⟨zk, zn, zt, qa, ql, qc, qf, qm, qg, rfl⟩ := hr4.five
   replace hr4 := hid hr4
   clear h4 hT0
   (refine hK.out _ _ (fun _ => hT1) (fun _ => ?_); clear hK K; (try simp only [Act.put, List.setIfInBounds_toArray, List.set_cons_zero, List.set_cons_succ]))
   ((refine wpAnyT_take (i := 5) (v := ?_) rfl (by kernel_rfl) (by kernel_rfl) (by kernel_rfl) (by kernel_rfl) (by exact fun _ _ _ h => h) (Or.inl ⟨by kernel_rfl, ?_⟩) hT1 ?_; rotate_left 1; focus (intro w hSw; unfold RhS at hSw; (try dsimp only at hSw); go_simp; try with_reducible rfl); (try simp only [List.getElem_toArray, List.getElem_cons_zero, List.getElem_cons_succ, Act.put, List.setIfInBounds_toArray, List.set_cons_zero, List.set_cons_succ])); (refine wpAnyT_take (i := 6) (v := ?_) rfl (by kernel_rfl) (by kernel_rfl) (by kernel_rfl) (by kernel_rfl) (by exact fun _ _ _ h => h) (Or.inl ⟨by kernel_rfl, ?_⟩) hT1 ?_; rotate_left 1; focus (intro w hSw; unfold RhS at hSw; (try dsimp only at hSw); go_simp; try with_reducible rfl); (try simp only [List.getElem_toArray, List.getElem_cons_zero, List.getElem_cons_succ, Act.put, List.setIfInBounds_toArray, List.set_cons_zero, List.set_cons_succ])); (refine wpAnyT_take (i := 7) (v := ?_) rfl (by kernel_rfl) (by kernel_rfl) (by kernel_rfl) (by kernel_rfl) (by exact fun _ _ _ h => h) (Or.inl ⟨by kernel_rfl, ?_⟩) hT1 ?_; rotate_left 1; focus (intro w hSw; unfold RhS at hSw; (try dsimp only at hSw); go_simp; try with_reducible rfl); (try simp only [List.getElem_toArray, List.getElem_cons_zero, List.getElem_cons_succ, Act.put, List.setIfInBounds_toArray, List.set_cons_zero, List.set_cons_succ])))
   refine wpAnyT_one (i := 8) (by kernel_rfl) rfl (fun K hK => ?_)
   go_simp
   have E2 := hid (E.out.step (below_new w4 (.cells #[.int .i64 0, .int .i64 0, .string ⟨#[]⟩, .slice none 0 0, .slice none 0 0] 25)))
   have hT2 := hSS.out _ E2.out.block
   (refine hK.out _ _ (fun _ => hT2) (fun _ => ?_); clear hK K; (try simp only [Act.put, List.setIfInBounds_toArray, List.set_cons_zero, List.set_cons_succ]))
   refine wpAnyT_one (i := 9) (by kernel_rfl) rfl (fun K hK => ?_)
   go_simp
   have E3 := hid (E.out.step (below_new w4 (.cells #[.int .i64 zk, .int .i64 zn, .string zt, .slice qa ql qc, .slice qf qm qg] 25)))
   have hT3 := hSS.out _ E3.out.block
   (refine hK.out _ _ (fun _ => hT3) (fun _ => ?_); clear hK K; (try simp only [Act.put, List.setIfInBounds_toArray, List.set_cons_zero, List.set_cons_succ]))
   refine wpAnyT_one (i := 10) (by kernel_rfl) rfl (fun K hK => ?_)
   go_simp
   (refine hK.out _ _ (fun h => absurd h (by decide)) (fun _ => ?_); clear hK K; (try simp only [Act.put, List.setIfInBounds_toArray, List.set_cons_zero, List.set_cons_succ]))
   refine wpAnyT_done (by kernel_rfl) ?_ _
   go_wp2_with fail
   go_meet
   exact (⟨_, _, _, _, _, _, rfl, rfl, heap_alloc_new w4 _, E.out.size, hr4.out.keep (fun _ h => h) (fun b hb => (below_new w4 _).block b (Nat.lt_of_lt_of_le (hSw.out b hb) (Nat.le_trans D.out.size E.out.size))), E3.out⟩)
  ·go_simp
   obtain ⟨wg, hwg⟩ : ∃ wg, wg = w1.alloc (.cells #[.int .i64 0, .int .i64 0, .string ⟨#[]⟩, .slice none 0 0, .slice none 0 0] 25) := ⟨_, rfl⟩
   have E1 : Hid (Below w1.heap.size w1 wg) := by show Below _ _ _; rw [hwg]; exact below_new _ _
   have gz : Hid (wg.heap[w1.heap.size]? = some (.cells #[.int .i64 0, .int .i64 0, .string ⟨#[]⟩, .slice none 0 0, .slice none 0 0] 25 (0, 0))) := by show _ = _; rw [hwg]; exact heap_alloc_new _ _
   have gs : Hid (wg.heap.size = w1.heap.size + 1) := by show _ = _; rw [hwg]; simp
   rw [← hwg]
   clear hwg
   have hT1 := hSS.out wg.drew E1.out.block
   clear hT0
   (refine hK.out _ _ (fun _ => hT1) (fun _ => ?_); clear hK K; (try simp only [Act.put, List.setIfInBounds_toArray, List.set_cons_zero, List.set_cons_succ]))
   refine wpAnyT_one (i := 4) (by kernel_rfl) rfl (fun K hK => ?_)
   go_simp
   refine (hfd.out wg.drew (D.out.step (E1.out.step (Below.refl wg.heap.size wg).drew))).mono ?_
   rintro e w4 ⟨cs4, rfl, h4, hr4⟩
   have E := hid (E1.out.step ((Below.refl wg.heap.size wg).drew.step h4))
   have g4 := hid (((Below.refl wg.heap.size wg).drew.step h4).block _ (lt_of_block gz.out) |>.trans gz.out)
   have hT2 := hSS.out _ E.out.block
   obtain ⟨zk, zn, zt, qa, ql, qc, qf, qm, qg, rfl⟩ := hr4.five
   replace hr4 := hid hr4
   clear h4 hT1
   (refine hK.out _ _ (fun _ => hT2) (fun _ => ?_); clear hK K; (try simp only [Act.put, List.setIfInBounds_toArray, List.set_cons_zero, List.set_cons_succ]))
   ((refine wpAnyT_take (i := 5) (v := ?_) rfl (by kernel_rfl) (by kernel_rfl) (by kernel_rfl) (by kernel_rfl) (by exact fun _ _ _ h => h) (Or.inl ⟨by kernel_rfl, ?_⟩) hT2 ?_; rotate_left 1; focus (intro w hSw; unfold RhS at hSw; (try dsimp only at hSw); go_simp; try with_reducible rfl); (try simp only [List.getElem_toArray, List.getElem_cons_zero, List.getElem_cons_succ, Act.put, List.setIfInBounds_toArray, List.set_cons_zero, List.set_cons_succ])); (refine wpAnyT_take (i := 6) (v := ?_) rfl (by kernel_rfl) (by kernel_rfl) (by kernel_rfl) (by kernel_rfl) (by exact fun _ _ _ h => h) (Or.inl ⟨by kernel_rfl, ?_⟩) hT2 ?_; rotate_left 1; focus (intro w hSw; unfold RhS at hSw; (try dsimp only at hSw); go_simp; try with_reducible rfl); (try simp only [List.getElem_toArray, List.getElem_cons_zero, List.getElem_cons_succ, Act.put, List.setIfInBounds_toArray, List.set_cons_zero, List.set_cons_succ])); (refine wpAnyT_take (i := 7) (v := ?_) rfl (by kernel_rfl) (by kernel_rfl) (by kernel_rfl) (by kernel_rfl) (by exact fun _ _ _ h => h) (Or.inl ⟨by kernel_rfl, ?_⟩) hT2 ?_; rotate_left 1; focus (intro w hSw; unfold RhS at hSw; (try dsimp only at hSw); go_simp; try with_reducible rfl); (try simp only [List.getElem_toArray, List.getElem_cons_zero, List.getElem_cons_succ, Act.put, List.setIfInBounds_toArray, List.set_cons_zero, List.set_cons_succ])))
   have c0 := box_at (j := 0) g4.out rfl
   have c1 := box_at (j := 1) g4.out rfl
   have c2 := box_at (j := 2) g4.out rfl
   have c3 := box_at (j := 3) g4.out rfl
   have c4 := box_at (j := 4) g4.out rfl
   have f0 := box_free g4.out
   refine wpAnyT_one (i := 9) (by kernel_rfl) rfl (fun K hK => ?_)
   go_simp
   clear c0 c1 c2 c3 c4
   clear f0
   have hbz := hid (set5_below E.out (Nat.le_refl _) (.int .i64 zk) (.int .i64 zn) (.string zt) (.slice qa ql qc) (.slice qf qm qg))
   have rz := hid (set5_box (u0 := .int .i64 zk) (u1 := .int .i64 zn) (u2 := .string zt) (u3 := .slice qa ql qc) (u4 := .slice qf qm qg) g4.out)
   have hkp := hid (fun b (hb : b ≠ w1.heap.size) => set5_other w4 (w1.heap.size) (.int .i64 zk) (.int .i64 zn) (.string zt) (.slice qa ql qc) (.slice qf qm qg) (b := b) hb)
   have hsz9 := hid (set5_size w4 (w1.heap.size) (.int .i64 zk) (.int .i64 zn) (.string zt) (.slice qa ql qc) (.slice qf qm qg))
   unfold set5 at hbz rz hkp hsz9
   generalize ((((w4.setCell ⟨w1.heap.size, 0, none⟩ (.int .i64 zk)).setCell ⟨w1.heap.size, 1, none⟩ (.int .i64 zn)).setCell ⟨w1.heap.size, 2, none⟩ (.string zt)).setCell ⟨w1.heap.size, 3, none⟩ (.slice qa ql qc)).setCell ⟨w1.heap.size, 4, none⟩ (.slice qf qm qg) = w9 at *
   have hT3 := hSS.out _ hbz.out.block
   clear hT2
   (refine hK.out _ _ (fun _ => hT3) (fun _ => ?_); clear hK K; (try simp only [Act.put, List.setIfInBounds_toArray, List.set_cons_zero, List.set_cons_succ]))
   refine wpAnyT_one (i := 10) (by kernel_rfl) rfl (fun K hK => ?_)
   go_simp
   (refine hK.out _ _ (fun h => absurd h (by decide)) (fun _ => ?_); clear hK K; (try simp only [Act.put, List.setIfInBounds_toArray, List.set_cons_zero, List.set_cons_succ]))
   refine wpAnyT_done (by kernel_rfl) ?_ _
   go_wp2_with fail
   go_meet
   have hgs2 : wg.drew.heap.size = w1.heap.size + 1 := gs.out
   exact (⟨_, _, _, _, _, _, rfl, rfl, rz.out, Nat.le_refl _, hr4.out.keep (fun _ h => h) (fun b hb => hkp.out b (by have := hSw.out b hb; have := D.out.size; omega)), hbz.out⟩)
 case rest =>
  obtain ⟨gx, x0, x1, x2, x3, x4, rfl, rfl, hgx, hge, hrx, hE⟩ := hcut
  obtain ⟨wb, hwb⟩ : ∃ x, x = wc := ⟨_, rfl⟩
  subst hwb
  replace hgx := hid hgx
  replace hrx := hid hrx
  replace hge := hid hge
  clear hSS hfd
  have hE0 := hid hE
  clear hE
  go_upto_if 68 with fail
  go_cut [11] from 67 to 69 (fun s11 wx => ∃ (v0 v1 v2 v3 v4 : Value), s11 = .pointer (some ⟨gx, 0, none⟩) ∧ wx.heap[gx]? = some (.cells #[v0, v1, v2, v3, v4] 25 (0, 0)) ∧ Rd wx S OLD [v0, v1, v2, v3, v4] ∧ Below w1.heap.size w1 wx)
  case first =>
   cases FO with
   | some y =>
    go_wp2_with fail
    go_meet
    exact ⟨_, _, _, _, _, rfl, hgx.out, by rw [hOLD.out]; exact hrx.out, hE0.out⟩
   | none =>
    have c0 := box_at (j := 0) hgx.out rfl
    have c1 := box_at (j := 1) hgx.out rfl
    have c2 := box_at (j := 2) hgx.out rfl
    have c3 := box_at (j := 3) hgx.out rfl
    have c4 := box_at (j := 4) hgx.out rfl
    have f0 := box_free hgx.out
    go_wp2_with fail
    clear c0 c1 c2 c3 c4
    clear f0
    have hbz := hid (set5_below hE0.out hge.out (.int .i64 6) (.int .i64 0) (.string ⟨#[]⟩) (.slice none 0 0) (.slice none 0 0))
    have rz := hid (set5_box (u0 := .int .i64 6) (u1 := .int .i64 0) (u2 := .string ⟨#[]⟩) (u3 := .slice none 0 0) (u4 := .slice none 0 0) hgx.out)
    have hkp := hid (fun b (hb : b ≠ gx) => set5_other wb (gx) (.int .i64 6) (.int .i64 0) (.string ⟨#[]⟩) (.slice none 0 0) (.slice none 0 0) (b := b) hb)
    have hsz9 := hid (set5_size wb (gx) (.int .i64 6) (.int .i64 0) (.string ⟨#[]⟩) (.slice none 0 0) (.slice none 0 0))
    unfold set5 at hbz rz hkp hsz9
    generalize ((((wb.setCell ⟨gx, 0, none⟩ (.int .i64 6)).setCell ⟨gx, 1, none⟩ (.int .i64 0)).setCell ⟨gx, 2, none⟩ (.string ⟨#[]⟩)).setCell ⟨gx, 3, none⟩ (.slice none 0 0)).setCell ⟨gx, 4, none⟩ (.slice none 0 0) = w9 at *
    go_meet
    exact ⟨_, _, _, _, _, rfl, rz.out, by rw [hOLD.out]; exact rd_docE, hbz.out⟩
  case rest =>
   obtain ⟨v0, v1, v2, v3, v4, rfl, hgd, hrd, hE⟩ := hcut
   obtain ⟨wd, hwd⟩ : ∃ x, x = wc := ⟨_, rfl⟩
   subst hwd
   clear hgx hrx hE0 hOLD hge
   replace hgd := hid hgd
   replace hrd := hid hrd
   have D2 := hid (D.out.step hE)
   have hsE := hid hE.size
   have q3 := hid ((hE.block _ (lt_of_block r3.out)).trans r3.out)
   have q5 := hid ((hE.block _ (lt_of_block r5.out)).trans r5.out)
   have q6 := hid ((hE.block _ (lt_of_block r6.out)).trans r6.out)
   clear hE r3 r5 r6
   replace ih := hid (fun (w' : World) (sv' : Value) (_ _ : Unit) (hb : Below wd.heap.size wd w') (hs : StrsAt w' (Now w') r sv') => ih.out w' [v0, v1, v2, v3, v4] [.int .i64 uk, .int .i64 un, .string ut, .slice ua ul uc, .slice uf um ug] sv' (fun c h => Nat.lt_of_lt_of_le (hSw.out c h) (Nat.le_trans D2.out.size hb.size)) (hrd.out.keep (fun _ h => h) (fun c h => hb.block c (Nat.lt_of_lt_of_le (hSw.out c h) D2.out.size))) (hx0.out.keep (fun _ h => h) (fun c h => (hb.block c (Nat.lt_of_lt_of_le (hSw.out c h) D2.out.size)).trans (D2.out.block c (hSw.out c h)))) hs)
   have hsk := hid (fun w' (h : Below wd.heap.size wd w') => hss0.out.later (D2.out.step h))
   have hSS : Hid (∀ x : World, (∀ c, c < wd.heap.size → x.heap[c]? = wd.heap[c]?) → BbS gx v0 v1 v2 v3 v4 (w.heap.size + 1) (.int .i64 uk) (.int .i64 un) (.string ut) (.slice ua ul uc) (.slice uf um ug) x) := fun x h => by
    have h3 := (h _ (lt_of_block hgd.out)).trans hgd.out
    have h5 := (h _ (lt_of_block q5.out)).trans q5.out
    exact ⟨box_at h3 rfl, box_at h3 rfl, box_at h3 rfl, box_at h3 rfl, box_at h3 rfl, box_at h5 rfl, box_at h5 rfl, box_at h5 rfl, box_at h5 rfl, box_at h5 rfl⟩
   go_upto_region 18 with fail
   go_cut [1, 13, 14] from 70 to 77 (fun s1 s13 s14 wx => ∃ (gz : Nat) (z0 z1 z2 z3 z4 : Value), s1 = .slice (some ⟨sb, so, none⟩) (r.length + 1) sc ∧ s13 = .pointer (some ⟨gz, 0, none⟩) ∧ s14 = .int .i64 qe ∧ wx.heap[gz]? = some (.cells #[z0, z1, z2, z3, z4] 25 (0, 0)) ∧ wd.heap.size ≤ gz ∧ Rd wx (fun c => S c ∨ From wd.heap.size wx c) qv [z0, z1, z2, z3, z4] ∧ Below wd.heap.size wd wx)
   case first =>
    by_cases hc1 : sc = 1
    ·subst hc1
     obtain rfl : r = [] := List.length_eq_zero_iff.1 (by omega)
     simp only [List.length_nil] at hr1
     refine wp_region_T (BbS gx v0 v1 v2 v3 v4 (w.heap.size + 1) (.int .i64 uk) (.int .i64 un) (.string ut) (.slice ua ul uc) (.slice uf um ug)) 10 (by kernel_rfl) ?_
     have hT0 := hSS.out wd.drew (fun _ _ => rfl)
     ((refine wpAnyT_take (i := 0) (v := ?_) rfl (by kernel_rfl) (by kernel_rfl) (by kernel_rfl) (by kernel_rfl) (by exact fun _ _ _ h => h) (Or.inl ⟨by kernel_rfl, ?_⟩) hT0 ?_; rotate_left 1; focus (intro w hSw; unfold BbS at hSw; (try dsimp only at hSw); go_simp; try with_reducible rfl); (try simp only [List.getElem_toArray, List.getElem_cons_zero, List.getElem_cons_succ, Act.put, List.setIfInBounds_toArray, List.set_cons_zero, List.set_cons_succ])); (refine wpAnyT_take (i := 1) (v := ?_) rfl (by kernel_rfl) (by kernel_rfl) (by kernel_rfl) (by kernel_rfl) (by exact fun _ _ _ h => h) (Or.inl ⟨by kernel_rfl, ?_⟩) hT0 ?_; rotate_left 1; focus (intro w hSw; unfold BbS at hSw; (try dsimp only at hSw); go_simp; try with_reducible rfl); (try simp only [List.getElem_toArray, List.getElem_cons_zero, List.getElem_cons_succ, Act.put, List.setIfInBounds_toArray, List.set_cons_zero, List.set_cons_succ])); (refine wpAnyT_take (i := 2) (v := ?_) rfl (by kernel_rfl) (by kernel_rfl) (by kernel_rfl) (by kernel_rfl) (by exact fun _ _ _ h => h) (Or.inl ⟨by kernel_rfl, ?_⟩) hT0 ?_; rotate_left 1; focus (intro w hSw; unfold BbS at hSw; (try dsimp only at hSw); go_simp; try with_reducible rfl); (try simp only [List.getElem_toArray, List.getElem_cons_zero, List.getElem_cons_succ, Act.put, List.setIfInBounds_toArray, List.set_cons_zero, List.set_cons_succ])); (refine wpAnyT_take (i := 3) (v := ?_) rfl (by kernel_rfl) (by kernel_rfl) (by kernel_rfl) (by kernel_rfl) (by exact fun _ _ _ h => h) (Or.inl ⟨by kernel_rfl, ?_⟩) hT0 ?_; rotate_left 1; focus (intro w hSw; unfold BbS at hSw; (try dsimp only at hSw); go_simp; try with_reducible rfl); (try simp only [List.getElem_toArray, List.getElem_cons_zero, List.getElem_cons_succ, Act.put, List.setIfInBounds_toArray, List.set_cons_zero, List.set_cons_succ])))
     refine wpAnyT_two (i := 4) (j := 8) (by kernel_rfl) rfl rfl (fun K hK => ?_) (fun K hK => ?_)
     ·go_simp
      refine (ih.out wd.drew _ () () (Below.refl wd.heap.size wd).drew (StrsAt.none_left (by omega))).mono ?_
      rintro e w4 ⟨cs4, rfl, h4, hr4⟩
      have E := hid ((Below.refl wd.heap.size wd).drew.step h4)
      have hT1 := hSS.out w4 E.out.block
      obtain ⟨zk, zn, zt, qa, ql, qc, qf, qm, qg, rfl⟩ := hr4.five
      replace hr4 := hid hr4
      clear h4 hT0
      (refine hK.out _ _ (fun _ => hT1) (fun _ => ?_); clear hK K; (try simp only [Act.put, List.setIfInBounds_toArray, List.set_cons_zero, List.set_cons_succ]))
      ((refine wpAnyT_take (i := 5) (v := ?_) rfl (by kernel_rfl) (by kernel_rfl) (by kernel_rfl) (by kernel_rfl) (by exact fun _ _ _ h => h) (Or.inl ⟨by kernel_rfl, ?_⟩) hT1 ?_; rotate_left 1; focus (intro w hSw; unfold BbS at hSw; (try dsimp only at hSw); go_simp; try with_reducible rfl); (try simp only [List.getElem_toArray, List.getElem_cons_zero, List.getElem_cons_succ, Act.put, List.setIfInBounds_toArray, List.set_cons_zero, List.set_cons_succ])); (refine wpAnyT_take (i := 6) (v := ?_) rfl (by kernel_rfl) (by kernel_rfl) (by kernel_rfl) (by kernel_rfl) (by exact fun _ _ _ h => h) (Or.inl ⟨by kernel_rfl, ?_⟩) hT1 ?_; rotate_left 1; focus (intro w hSw; unfold BbS at hSw; (try dsimp only at hSw); go_simp; try with_reducible rfl); (try simp only [List.getElem_toArray, List.getElem_cons_zero, List.getElem_cons_succ, Act.put, List.setIfInBounds_toArray, List.set_cons_zero, List.set_cons_succ])); (refine wpAnyT_take (i := 7) (v := ?_) rfl (by kernel_rfl) (by kernel_rfl) (by kernel_rfl) (by kernel_rfl) (by exact fun _ _ _ h => h) (Or.inl ⟨by kernel_rfl, ?_⟩) hT1 ?_; rotate_left 1; focus (intro w hSw; unfold BbS at hSw; (try dsimp only at hSw); go_simp; try with_reducible rfl); (try simp only [List.getElem_toArray, List.getElem_cons_zero, List.getElem_cons_succ, Act.put, List.setIfInBounds_toArray, List.set_cons_zero, List.set_cons_succ])))
      refine wpAnyT_one (i := 8) (by kernel_rfl) rfl (fun K hK => ?_)
      go_simp
      have E2 := hid (E.out.step (below_new w4 (.cells #[.int .i64 0, .int .i64 0, .string ⟨#[]⟩, .slice none 0 0, .slice none 0 0] 25)))
      have hT2 := hSS.out _ E2.out.block
      (refine hK.out _ _ (fun _ => hT2) (fun _ => ?_); clear hK K; (try simp only [Act.put, List.setIfInBounds_toArray, List.set_cons_zero, List.set_cons_succ]))
      refine wpAnyT_one (i := 9) (by kernel_rfl) rfl (fun K hK => ?_)
      go_simp
      have E3 := hid (E.out.step (below_new w4 (.cells #[.int .i64 zk, .int .i64 zn, .string zt, .slice qa ql qc, .slice qf qm qg] 25)))
      have hT3 := hSS.out _ E3.out.block
      (refine hK.out _ _ (fun _ => hT3) (fun _ => ?_); clear hK K; (try simp only [Act.put, List.setIfInBounds_toArray, List.set_cons_zero, List.set_cons_succ]))
      refine wpAnyT_one (i := 10) (by kernel_rfl) rfl (fun K hK => ?_)
      go_simp
      (refine hK.out _ _ (fun h => absurd h (by decide)) (fun _ => ?_); clear hK K; (try simp only [Act.put, List.setIfInBounds_toArray, List.set_cons_zero, List.set_cons_succ]))
      refine wpAnyT_done (by kernel_rfl) ?_ _
      go_wp2_with fail
      go_meet
      exact ⟨_, _, _, _, _, _, rfl, rfl, rfl, heap_alloc_new w4 _, E.out.size, (hr4.out.keep (fun c h => h.imp id (fun h => ⟨h.1, Nat.lt_of_lt_of_le h.2 (below_new w4 _).size⟩)) (fun b' hb => (below_new w4 _).block b' (hb.elim (fun h => Nat.lt_of_lt_of_le (hSw.out b' h) (Nat.le_trans D2.out.size E.out.size)) (fun h => h.2)))), E3.out⟩
     ·go_simp
      obtain ⟨wg, hwg⟩ : ∃ wg, wg = wd.alloc (.cells #[.int .i64 0, .int .i64 0, .string ⟨#[]⟩, .slice none 0 0, .slice none 0 0] 25) := ⟨_, rfl⟩
      have E1 : Hid (Below wd.heap.size wd wg) := by show Below _ _ _; rw [hwg]; exact below_new _ _
      have gz : Hid (wg.heap[wd.heap.size]? = some (.cells #[.int .i64 0, .int .i64 0, .string ⟨#[]⟩, .slice none 0 0, .slice none 0 0] 25 (0, 0))) := by show _ = _; rw [hwg]; exact heap_alloc_new _ _
      have gs : Hid (wg.heap.size = wd.heap.size + 1) := by show _ = _; rw [hwg]; simp
      rw [← hwg]
      clear hwg
      have hT1 := hSS.out wg.drew E1.out.block
      clear hT0
      (refine hK.out _ _ (fun _ => hT1) (fun _ => ?_); clear hK K; (try simp only [Act.put, List.setIfInBounds_toArray, List.set_cons_zero, List.set_cons_succ]))
      refine wpAnyT_one (i := 4) (by kernel_rfl) rfl (fun K hK => ?_)
      go_simp
      refine (ih.out wg.drew _ () () (E1.out.step (Below.refl wg.heap.size wg).drew) (StrsAt.none_left (by omega))).mono ?_
      rintro e w4 ⟨cs4, rfl, h4, hr4⟩
      have E := hid (E1.out.step ((Below.refl wg.heap.size wg).drew.step h4))
      have g4 := hid (((Below.refl wg.heap.size wg).drew.step h4).block _ (lt_of_block gz.out) |>.trans gz.out)
      have hT2 := hSS.out _ E.out.block
      obtain ⟨zk, zn, zt, qa, ql, qc, qf, qm, qg, rfl⟩ := hr4.five
      replace hr4 := hid hr4
      clear h4 hT1
      (refine hK.out _ _ (fun _ => hT2) (fun _ => ?_); clear hK K; (try simp only [Act.put, List.setIfInBounds_toArray, List.set_cons_zero, List.set_cons_succ]))
      ((refine wpAnyT_take (i := 5) (v := ?_) rfl (by kernel_rfl) (by kernel_rfl) (by kernel_rfl) (by kernel_rfl) (by exact fun _ _ _ h => h) (Or.inl ⟨by kernel_rfl, ?_⟩) hT2 ?_; rotate_left 1; focus (intro w hSw; unfold BbS at hSw; (try dsimp only at hSw); go_simp; try with_reducible rfl); (try simp only [List.getElem_toArray, List.getElem_cons_zero, List.getElem_cons_succ, Act.put, List.setIfInBounds_toArray, List.set_cons_zero, List.set_cons_succ])); (refine wpAnyT_take (i := 6) (v := ?_) rfl (by kernel_rfl) (by kernel_rfl) (by kernel_rfl) (by kernel_rfl) (by exact fun _ _ _ h => h) (Or.inl ⟨by kernel_rfl, ?_⟩) hT2 ?_; rotate_left 1; focus (intro w hSw; unfold BbS at hSw; (try dsimp only at hSw); go_simp; try with_reducible rfl); (try simp only [List.getElem_toArray, List.getElem_cons_zero, List.getElem_cons_succ, Act.put, List.setIfInBounds_toArray, List.set_cons_zero, List.set_cons_succ])); (refine wpAnyT_take (i := 7) (v := ?_) rfl (by kernel_rfl) (by kernel_rfl) (by kernel_rfl) (by kernel_rfl) (by exact fun _ _ _ h => h) (Or.inl ⟨by kernel_rfl, ?_⟩) hT2 ?_; rotate_left 1; focus (intro w hSw; unfold BbS at hSw; (try dsimp only at hSw); go_simp; try with_reducible rfl); (try simp only [List.getElem_toArray, List.getElem_cons_zero, List.getElem_cons_succ, Act.put, List.setIfInBounds_toArray, List.set_cons_zero, List.set_cons_succ])))
      have c0 := box_at (j := 0) g4.out rfl
      have c1 := box_at (j := 1) g4.out rfl
      have c2 := box_at (j := 2) g4.out rfl
      have c3 := box_at (j := 3) g4.out rfl
      have c4 := box_at (j := 4) g4.out rfl
      have f0 := box_free g4.out
      refine wpAnyT_one (i := 9) (by kernel_rfl) rfl (fun K hK => ?_)
      go_simp
      clear c0 c1 c2 c3 c4
      clear f0
      have hbz := hid (set5_below E.out (Nat.le_refl _) (.int .i64 zk) (.int .i64 zn) (.string zt) (.slice qa ql qc) (.slice qf qm qg))
      have rz := hid (set5_box (u0 := .int .i64 zk) (u1 := .int .i64 zn) (u2 := .string zt) (u3 := .slice qa ql qc) (u4 := .slice qf qm qg) g4.out)
      have hkp := hid (fun b (hb : b ≠ wd.heap.size) => set5_other w4 (wd.heap.size) (.int .i64 zk) (.int .i64 zn) (.string zt) (.slice qa ql qc) (.slice qf qm qg) (b := b) hb)
      have hsz9 := hid (set5_size w4 (wd.heap.size) (.int .i64 zk) (.int .i64 zn) (.string zt) (.slice qa ql qc) (.slice qf qm qg))
      unfold set5 at hbz rz hkp hsz9
      generalize ((((w4.setCell ⟨wd.heap.size, 0, none⟩ (.int .i64 zk)).setCell ⟨wd.heap.size, 1, none⟩ (.int .i64 zn)).setCell ⟨wd.heap.size, 2, none⟩ (.string zt)).setCell ⟨wd.heap.size, 3, none⟩ (.slice qa ql qc)).setCell ⟨wd.heap.size, 4, none⟩ (.slice qf qm qg) = w9 at *
      have hT3 := hSS.out _ hbz.out.block
      clear hT2
      (refine hK.out _ _ (fun _ => hT3) (fun _ => ?_); clear hK K; (try simp only [Act.put, List.setIfInBounds_toArray, List.set_cons_zero, List.set_cons_succ]))
      refine wpAnyT_one (i := 10) (by kernel_rfl) rfl (fun K hK => ?_)
      go_simp
      (refine hK.out _ _ (fun h => absurd h (by decide)) (fun _ => ?_); clear hK K; (try simp only [Act.put, List.setIfInBounds_toArray, List.set_cons_zero, List.set_cons_succ]))
      refine wpAnyT_done (by kernel_rfl) ?_ _
      go_wp2_with fail
      go_meet
      have hgs2 : wg.drew.heap.size = wd.heap.size + 1 := gs.out
      exact ⟨_, _, _, _, _, _, rfl, rfl, rfl, rz.out, Nat.le_refl _, (hr4.out.keep (fun c h => h.imp id (fun h => ⟨by have := h.1; omega, by rw [hsz9.out]; exact h.2⟩)) (fun b' hb => hkp.out b' (hb.elim (fun h => by have := hSw.out b' h; have := D2.out.size; omega) (fun h => by have := h.1; omega)))), hbz.out⟩
    ·skip
     refine wp_region_T (BbS gx v0 v1 v2 v3 v4 (w.heap.size + 1) (.int .i64 uk) (.int .i64 un) (.string ut) (.slice ua ul uc) (.slice uf um ug)) 10 (by kernel_rfl) ?_
     have hT0 := hSS.out wd.drew (fun _ _ => rfl)
     ((refine wpAnyT_take (i := 0) (v := ?_) rfl (by kernel_rfl) (by kernel_rfl) (by kernel_rfl) (by kernel_rfl) (by exact fun _ _ _ h => h) (Or.inl ⟨by kernel_rfl, ?_⟩) hT0 ?_; rotate_left 1; focus (intro w hSw; unfold BbS at hSw; (try dsimp only at hSw); go_simp; try with_reducible rfl); (try simp only [List.getElem_toArray, List.getElem_cons_zero, List.getElem_cons_succ, Act.put, List.setIfInBounds_toArray, List.set_cons_zero, List.set_cons_succ])); (refine wpAnyT_take (i := 1) (v := ?_) rfl (by kernel_rfl) (by kernel_rfl) (by kernel_rfl) (by kernel_rfl) (by exact fun _ _ _ h => h) (Or.inl ⟨by kernel_rfl, ?_⟩) hT0 ?_; rotate_left 1; focus (intro w hSw; unfold BbS at hSw; (try dsimp only at hSw); go_simp; try with_reducible rfl); (try simp only [List.getElem_toArray, List.getElem_cons_zero, List.getElem_cons_succ, Act.put, List.setIfInBounds_toArray, List.set_cons_zero, List.set_cons_succ])); (refine wpAnyT_take (i := 2) (v := ?_) rfl (by kernel_rfl) (by kernel_rfl) (by kernel_rfl) (by kernel_rfl) (by exact fun _ _ _ h => h) (Or.inl ⟨by kernel_rfl, ?_⟩) hT0 ?_; rotate_left 1; focus (intro w hSw; unfold BbS at hSw; (try dsimp only at hSw); go_simp; try with_reducible rfl); (try simp only [List.getElem_toArray, List.getElem_cons_zero, List.getElem_cons_succ, Act.put, List.setIfInBounds_toArray, List.set_cons_zero, List.set_cons_succ])); (refine wpAnyT_take (i := 3) (v := ?_) rfl (by kernel_rfl) (by kernel_rfl) (by kernel_rfl) (by kernel_rfl) (by exact fun _ _ _ h => h) (Or.inl ⟨by kernel_rfl, ?_⟩) hT0 ?_; rotate_left 1; focus (intro w hSw; unfold BbS at hSw; (try dsimp only at hSw); go_simp; try with_reducible rfl); (try simp only [List.getElem_toArray, List.getElem_cons_zero, List.getElem_cons_succ, Act.put, List.setIfInBounds_toArray, List.set_cons_zero, List.set_cons_succ])))
     refine wpAnyT_two (i := 4) (j := 8) (by kernel_rfl) rfl rfl (fun K hK => ?_) (fun K hK => ?_)
     ·go_simp
      refine (ih.out wd.drew _ () () (Below.refl wd.heap.size wd).drew ((hsk.out _ (Below.refl wd.heap.size wd).drew).tail)).mono ?_
      rintro e w4 ⟨cs4, rfl, h4, hr4⟩
      have E := hid ((Below.refl wd.heap.size wd).drew.step h4)
      have hT1 := hSS.out w4 E.out.block
      obtain ⟨zk, zn, zt, qa, ql, qc, qf, qm, qg, rfl⟩ := hr4.five
      replace hr4 := hid hr4
      clear h4 hT0
      (refine hK.out _ _ (fun _ => hT1) (fun _ => ?_); clear hK K; (try simp only [Act.put, List.setIfInBounds_toArray, List.set_cons_zero, List.set_cons_succ]))
      ((refine wpAnyT_take (i := 5) (v := ?_) rfl (by kernel_rfl) (by kernel_rfl) (by kernel_rfl) (by kernel_rfl) (by exact fun _ _ _ h => h) (Or.inl ⟨by kernel_rfl, ?_⟩) hT1 ?_; rotate_left 1; focus (intro w hSw; unfold BbS at hSw; (try dsimp only at hSw); go_simp; try with_reducible rfl); (try simp only [List.getElem_toArray, List.getElem_cons_zero, List.getElem_cons_succ, Act.put, List.setIfInBounds_toArray, List.set_cons_zero, List.set_cons_succ])); (refine wpAnyT_take (i := 6) (v := ?_) rfl (by kernel_rfl) (by kernel_rfl) (by kernel_rfl) (by kernel_rfl) (by exact fun _ _ _ h => h) (Or.inl ⟨by kernel_rfl, ?_⟩) hT1 ?_; rotate_left 1; focus (intro w hSw; unfold BbS at hSw; (try dsimp only at hSw); go_simp; try with_reducible rfl); (try simp only [List.getElem_toArray, List.getElem_cons_zero, List.getElem_cons_succ, Act.put, List.setIfInBounds_toArray, List.set_cons_zero, List.set_cons_succ])); (refine wpAnyT_take (i := 7) (v := ?_) rfl (by kernel_rfl) (by kernel_rfl) (by kernel_rfl) (by kernel_rfl) (by exact fun _ _ _ h => h) (Or.inl ⟨by kernel_rfl, ?_⟩) hT1 ?_; rotate_left 1; focus (intro w hSw; unfold BbS at hSw; (try dsimp only at hSw); go_simp; try with_reducible rfl); (try simp only [List.getElem_toArray, List.getElem_cons_zero, List.getElem_cons_succ, Act.put, List.setIfInBounds_toArray, List.set_cons_zero, List.set_cons_succ])))
      refine wpAnyT_one (i := 8) (by kernel_rfl) rfl (fun K hK => ?_)
      go_simp
      have E2 := hid (E.out.step (below_new w4 (.cells #[.int .i64 0, .int .i64 0, .string ⟨#[]⟩, .slice none 0 0, .slice none 0 0] 25)))
      have hT2 := hSS.out _ E2.out.block
      (refine hK.out _ _ (fun _ => hT2) (fun _ => ?_); clear hK K; (try simp only [Act.put, List.setIfInBounds_toArray, List.set_cons_zero, List.set_cons_succ]))
      refine wpAnyT_one (i := 9) (by kernel_rfl) rfl (fun K hK => ?_)
      go_simp
      have E3 := hid (E.out.step (below_new w4 (.cells #[.int .i64 zk, .int .i64 zn, .string zt, .slice qa ql qc, .slice qf qm qg] 25)))
      have hT3 := hSS.out _ E3.out.block
      (refine hK.out _ _ (fun _ => hT3) (fun _ => ?_); clear hK K; (try simp only [Act.put, List.setIfInBounds_toArray, List.set_cons_zero, List.set_cons_succ]))
      refine wpAnyT_one (i := 10) (by kernel_rfl) rfl (fun K hK => ?_)
      go_simp
      (refine hK.out _ _ (fun h => absurd h (by decide)) (fun _ => ?_); clear hK K; (try simp only [Act.put, List.setIfInBounds_toArray, List.set_cons_zero, List.set_cons_succ]))
      refine wpAnyT_done (by kernel_rfl) ?_ _
      go_wp2_with fail
      go_meet
      exact ⟨_, _, _, _, _, _, rfl, rfl, rfl, heap_alloc_new w4 _, E.out.size, (hr4.out.keep (fun c h => h.imp id (fun h => ⟨h.1, Nat.lt_of_lt_of_le h.2 (below_new w4 _).size⟩)) (fun b' hb => (below_new w4 _).block b' (hb.elim (fun h => Nat.lt_of_lt_of_le (hSw.out b' h) (Nat.le_trans D2.out.size E.out.size)) (fun h => h.2)))), E3.out⟩
     ·go_simp
      obtain ⟨wg, hwg⟩ : ∃ wg, wg = wd.alloc (.cells #[.int .i64 0, .int .i64 0, .string ⟨#[]⟩, .slice none 0 0, .slice none 0 0] 25) := ⟨_, rfl⟩
      have E1 : Hid (Below wd.heap.size wd wg) := by show Below _ _ _; rw [hwg]; exact below_new _ _
      have gz : Hid (wg.heap[wd.heap.size]? = some (.cells #[.int .i64 0, .int .i64 0, .string ⟨#[]⟩, .slice none 0 0, .slice none 0 0] 25 (0, 0))) := by show _ = _; rw [hwg]; exact heap_alloc_new _ _
      have gs : Hid (wg.heap.size = wd.heap.size + 1) := by show _ = _; rw [hwg]; simp
      rw [← hwg]
      clear hwg
      have hT1 := hSS.out wg.drew E1.out.block
      clear hT0
      (refine hK.out _ _ (fun _ => hT1) (fun _ => ?_); clear hK K; (try simp only [Act.put, List.setIfInBounds_toArray, List.set_cons_zero, List.set_cons_succ]))
      refine wpAnyT_one (i := 4) (by kernel_rfl) rfl (fun K hK => ?_)
      go_simp
      refine (ih.out wg.drew _ () () (E1.out.step (Below.refl wg.heap.size wg).drew) ((hsk.out _ (E1.out.step (Below.refl wg.heap.size wg).drew)).tail)).mono ?_
      rintro e w4 ⟨cs4, rfl, h4, hr4⟩
      have E := hid (E1.out.step ((Below.refl wg.heap.size wg).drew.step h4))
      have g4 := hid (((Below.refl wg.heap.size wg).drew.step h4).block _ (lt_of_block gz.out) |>.trans gz.out)
      have hT2 := hSS.out _ E.out.block
      obtain ⟨zk, zn, zt, qa, ql, qc, qf, qm, qg, rfl⟩ := hr4.five
      replace hr4 := hid hr4
      clear h4 hT1
      (refine hK.out _ _ (fun _ => hT2) (fun _ => ?_); clear hK K; (try simp only [Act.put, List.setIfInBounds_toArray, List.set_cons_zero, List.set_cons_succ]))
      ((refine wpAnyT_take (i := 5) (v := ?_) rfl (by kernel_rfl) (by kernel_rfl) (by kernel_rfl) (by kernel_rfl) (by exact fun _ _ _ h => h) (Or.inl ⟨by kernel_rfl, ?_⟩) hT2 ?_; rotate_left 1; focus (intro w hSw; unfold BbS at hSw; (try dsimp only at hSw); go_simp; try with_reducible rfl); (try simp only [List.getElem_toArray, List.getElem_cons_zero, List.getElem_cons_succ, Act.put, List.setIfInBounds_toArray, List.set_cons_zero, List.set_cons_succ])); (refine wpAnyT_take (i := 6) (v := ?_) rfl (by kernel_rfl) (by kernel_rfl) (by kernel_rfl) (by kernel_rfl) (by exact fun _ _ _ h => h) (Or.inl ⟨by kernel_rfl, ?_⟩) hT2 ?_; rotate_left 1; focus (intro w hSw; unfold BbS at hSw; (try dsimp only at hSw); go_simp; try with_reducible rfl); (try simp only [List.getElem_toArray, List.getElem_cons_zero, List.getElem_cons_succ, Act.put, List.setIfInBounds_toArray, List.set_cons_zero, List.set_cons_succ])); (refine wpAnyT_take (i := 7) (v := ?_) rfl (by kernel_rfl) (by kernel_rfl) (by kernel_rfl) (by kernel_rfl) (by exact fun _ _ _ h => h) (Or.inl ⟨by kernel_rfl, ?_⟩) hT2 ?_; rotate_left 1; focus (intro w hSw; unfold BbS at hSw; (try dsimp only at hSw); go_simp; try with_reducible rfl); (try simp only [List.getElem_toArray, List.getElem_cons_zero, List.getElem_cons_succ, Act.put, List.setIfInBounds_toArray, List.set_cons_zero, List.set_cons_succ])))
      have c0 := box_at (j := 0) g4.out rfl
      have c1 := box_at (j := 1) g4.out rfl
      have c2 := box_at (j := 2) g4.out rfl
      have c3 := box_at (j := 3) g4.out rfl
      have c4 := box_at (j := 4) g4.out rfl
      have f0 := box_free g4.out
      refine wpAnyT_one (i := 9) (by kernel_rfl) rfl (fun K hK => ?_)
      go_simp
      clear c0 c1 c2 c3 c4
      clear f0
      have hbz := hid (set5_below E.out (Nat.le_refl _) (.int .i64 zk) (.int .i64 zn) (.string zt) (.slice qa ql qc) (.slice qf qm qg))
      have rz := hid (set5_box (u0 := .int .i64 zk) (u1 := .int .i64 zn) (u2 := .string zt) (u3 := .slice qa ql qc) (u4 := .slice qf qm qg) g4.out)
      have hkp := hid (fun b (hb : b ≠ wd.heap.size) => set5_other w4 (wd.heap.size) (.int .i64 zk) (.int .i64 zn) (.string zt) (.slice qa ql qc) (.slice qf qm qg) (b := b) hb)
      have hsz9 := hid (set5_size w4 (wd.heap.size) (.int .i64 zk) (.int .i64 zn) (.string zt) (.slice qa ql qc) (.slice qf qm qg))
      unfold set5 at hbz rz hkp hsz9
      generalize ((((w4.setCell ⟨wd.heap.size, 0, none⟩ (.int .i64 zk)).setCell ⟨wd.heap.size, 1, none⟩ (.int .i64 zn)).setCell ⟨wd.heap.size, 2, none⟩ (.string zt)).setCell ⟨wd.heap.size, 3, none⟩ (.slice qa ql qc)).setCell ⟨wd.heap.size, 4, none⟩ (.slice qf qm qg) = w9 at *
      have hT3 := hSS.out _ hbz.out.block
      clear hT2
      (refine hK.out _ _ (fun _ => hT3) (fun _ => ?_); clear hK K; (try simp only [Act.put, List.setIfInBounds_toArray, List.set_cons_zero, List.set_cons_succ]))
      refine wpAnyT_one (i := 10) (by kernel_rfl) rfl (fun K hK => ?_)
      go_simp
      (refine hK.out _ _ (fun h => absurd h (by decide)) (fun _ => ?_); clear hK K; (try simp only [Act.put, List.setIfInBounds_toArray, List.set_cons_zero, List.set_cons_succ]))
      refine wpAnyT_done (by kernel_rfl) ?_ _
      go_wp2_with fail
      go_meet
      have hgs2 : wg.drew.heap.size = wd.heap.size + 1 := gs.out
      exact ⟨_, _, _, _, _, _, rfl, rfl, rfl, rz.out, Nat.le_refl _, (hr4.out.keep (fun c h => h.imp id (fun h => ⟨by have := h.1; omega, by rw [hsz9.out]; exact h.2⟩)) (fun b' hb => hkp.out b' (hb.elim (fun h => by have := hSw.out b' h; have := D2.out.size; omega) (fun h => by have := h.1; omega)))), hbz.out⟩
   case rest =>
    obtain ⟨gz, y0, y1, y2, y3, y4, rfl, rfl, rfl, hgz, hge, hrq, hbc⟩ := hcut
    obtain ⟨we, hwe⟩ : ∃ x, x = wc := ⟨_, rfl⟩
    subst hwe
    clear ih hsk hSS hgd hrd hge hr1
    replace hrq := hid hrq
    replace hgz := hid hgz
    replace q3 := hid ((hbc.block _ (lt_of_block q3.out)).trans q3.out)
    replace q6 := hid ((hbc.block _ (lt_of_block q6.out)).trans q6.out)
    have D3 := hid (D2.out.step hbc)
    have hsB := hid hbc.size
    clear hbc q5
    by_cases hq : qe = 0
    ·subst hq
     have hR2 : R = (docL ((withR s qv false VX.fn VX.fv).map Prod.fst) ((withR s qv false VX.fn VX.fv).map Prod.snd), 0) := by rw [hR.out]; simp
     subst hR2
     clear hR
     have hsD := hid D2.out.size
     have hw5 := hid (fun w' (h : Below we.heap.size we w') => rwith_calls (S := fun c => S c ∨ From wd.heap.size we c) VX qv s hz false (w := w') (cs := [.int .i64 k, .int .i64 n0, .string str, .slice la l.length lc, .slice fa fv.length fc]) (xs := [y0, y1, y2, y3, y4]) (fun c hc => hc.elim (fun hc => Nat.lt_of_lt_of_le (hSw.out c hc) (Nat.le_trans D3.out.size h.size)) (fun hc => Nat.lt_of_lt_of_le hc.2 h.size)) hmX.out (hV0.out.keep (fun _ h => .inl h) (fun c hc => (h.block c (Nat.lt_of_lt_of_le (hSw.out c hc) D3.out.size)).trans (D3.out.block c (hSw.out c hc)))) (hrq.out.keep (fun _ h => h) (fun c hc => h.block c (hc.elim (fun hc => Nat.lt_of_lt_of_le (hSw.out c hc) D3.out.size) (fun hc => hc.2)))))
     have hSS : Hid (∀ x : World, (∀ c, c < we.heap.size → x.heap[c]? = we.heap[c]?) → BcS w.heap.size (.int .i64 k) (.int .i64 n0) (.string str) (.slice la l.length lc) (.slice fa fv.length fc) sb so s gz y0 y1 y2 y3 y4 x) := fun x h => by
      have hB := (h _ (lt_of_block q3.out)).trans q3.out
      have hG := (h _ (lt_of_block hgz.out)).trans hgz.out
      have hc := (World.cell?_of_block (w := we) (a := ⟨sb, so, none⟩) (h sb (Nat.lt_of_lt_of_le hsb.out D3.out.size))).trans ((D3.out.cell (p := ⟨sb, _, none⟩) hsb.out).trans hsc0.out)
      exact ⟨box_at (j := 0) hB rfl, box_at (j := 1) hB rfl, box_at (j := 2) hB rfl, box_at (j := 3) hB rfl, box_at (j := 4) hB rfl, hc, box_at (j := 0) hG rfl, box_at (j := 1) hG rfl, box_at (j := 2) hG rfl, box_at (j := 3) hG rfl, box_at (j := 4) hG rfl⟩
     go_upto_region 21 with fail
     refine wp_region_T (BcS w.heap.size (.int .i64 k) (.int .i64 n0) (.string str) (.slice la l.length lc) (.slice fa fv.length fc) sb so s gz y0 y1 y2 y3 y4) 6 (by kernel_rfl) ?_
     have hT0 := hSS.out we.drew (fun _ _ => rfl)
     ((refine wpAnyT_take (i := 0) (v := ?_) rfl (by kernel_rfl) (by kernel_rfl) (by kernel_rfl) (by kernel_rfl) (by exact fun _ _ _ h => h) (Or.inl ⟨by kernel_rfl, ?_⟩) hT0 ?_; rotate_left 1; focus (intro w hSw; unfold BcS at hSw; (try dsimp only at hSw); go_simp; try with_reducible rfl); (try simp only [List.getElem_toArray, List.getElem_cons_zero, List.getElem_cons_succ, Act.put, List.setIfInBounds_toArray, List.set_cons_zero, List.set_cons_succ])); (refine wpAnyT_take (i := 1) (v := ?_) rfl (by kernel_rfl) (by kernel_rfl) (by kernel_rfl) (by kernel_rfl) (by exact fun _ _ _ h => h) (Or.inl ⟨by kernel_rfl, ?_⟩) hT0 ?_; rotate_left 1; focus (intro w hSw; unfold BcS at hSw; (try dsimp only at hSw); go_simp; try with_reducible rfl); (try simp only [List.getElem_toArray, List.getElem_cons_zero, List.getElem_cons_succ, Act.put, List.setIfInBounds_toArray, List.set_cons_zero, List.set_cons_succ])); (refine wpAnyT_take (i := 2) (v := ?_) rfl (by kernel_rfl) (by kernel_rfl) (by kernel_rfl) (by kernel_rfl) (by exact fun _ _ _ h => h) (Or.inl ⟨by kernel_rfl, ?_⟩) hT0 ?_; rotate_left 1; focus (intro w hSw; unfold BcS at hSw; (try dsimp only at hSw); go_simp; try with_reducible rfl); (try simp only [List.getElem_toArray, List.getElem_cons_zero, List.getElem_cons_succ, Act.put, List.setIfInBounds_toArray, List.set_cons_zero, List.set_cons_succ])); (refine wpAnyT_take (i := 3) (v := ?_) rfl (by kernel_rfl) (by kernel_rfl) (by kernel_rfl) (by kernel_rfl) (by exact fun _ _ _ h => h) (Or.inl ⟨by kernel_rfl, ?_⟩) hT0 ?_; rotate_left 1; focus (intro w hSw; unfold BcS at hSw; (try dsimp only at hSw); go_simp; try with_reducible rfl); (try simp only [List.getElem_toArray, List.getElem_cons_zero, List.getElem_cons_succ, Act.put, List.setIfInBounds_toArray, List.set_cons_zero, List.set_cons_succ])); (refine wpAnyT_take (i := 4) (v := ?_) rfl (by kernel_rfl) (by kernel_rfl) (by kernel_rfl) (by kernel_rfl) (by exact fun _ _ _ h => h) (Or.inl ⟨by kernel_rfl, ?_⟩) hT0 ?_; rotate_left 1; focus (intro w hSw; unfold BcS at hSw; (try dsimp only at hSw); go_simp; try with_reducible rfl); (try simp only [List.getElem_toArray, List.getElem_cons_zero, List.getElem_cons_succ, Act.put, List.setIfInBounds_toArray, List.set_cons_zero, List.set_cons_succ])))
     refine wpAnyT_one (i := 5) (by kernel_rfl) rfl (fun K hK => ?_)
     go_simp
     refine (hw5.out we.drew (Below.refl we.heap.size we).drew).mono ?_
     rintro e w5 ⟨ys5, rfl, h5, hr5⟩
     have E5 := hid ((Below.refl we.heap.size we).drew.step h5)
     have D5 := hid (D3.out.step E5.out)
     have hT1 := hSS.out w5 E5.out.block
     have p6 := hid ((E5.out.block _ (lt_of_block q6.out)).trans q6.out)
     obtain ⟨zk, zn, zt, qa, ql, qc, qf, qm, qg, rfl⟩ := hr5.five
     replace hr5 := hid hr5
     clear h5 hT0 hw5
     (refine hK.out _ _ (fun _ => hT1) (fun _ => ?_); clear hK K; (try simp only [Act.put, List.setIfInBounds_toArray, List.set_cons_zero, List.set_cons_succ]))
     have c0 := box_at (j := 0) p6.out rfl
     have c1 := box_at (j := 1) p6.out rfl
     have c2 := box_at (j := 2) p6.out rfl
     have c3 := box_at (j := 3) p6.out rfl
     have c4 := box_at (j := 4) p6.out rfl
     have f0 := box_free p6.out
     refine wpAnyT_one (i := 6) (by kernel_rfl) rfl (fun K hK => ?_)
     go_simp
     (refine hK.out _ _ (fun h => absurd h (by decide)) (fun _ => ?_); clear hK K; (try simp only [Act.put, List.setIfInBounds_toArray]))
     refine wpAnyT_one (i := 7) (by kernel_rfl) rfl (fun K hK => ?_)
     go_simp
     (refine hK.out _ _ (fun h => absurd h (by decide)) (fun _ => ?_); clear hK K; (try simp only [Act.put, List.setIfInBounds_toArray, List.set_cons_zero, List.set_cons_succ]))
     refine wpAnyT_done (by kernel_rfl) ?_ _
     clear c0 c1 c2 c3 c4
     clear f0 hT1
     have hbz := hid (set5_below D5.out (Nat.le_add_right w.heap.size 2) (.int .i64 zk) (.int .i64 zn) (.string zt) (.slice qa ql qc) (.slice qf qm qg))
     have rz := hid (set5_box (u0 := .int .i64 zk) (u1 := .int .i64 zn) (u2 := .string zt) (u3 := .slice qa ql qc) (u4 := .slice qf qm qg) p6.out)
     have hkp := hid (fun b (hb : b ≠ w.heap.size + 2) => set5_other w5 (w.heap.size + 2) (.int .i64 zk) (.int .i64 zn) (.string zt) (.slice qa ql qc) (.slice qf qm qg) (b := b) hb)
     have hsz9 := hid (set5_size w5 (w.heap.size + 2) (.int .i64 zk) (.int .i64 zn) (.string zt) (.slice qa ql qc) (.slice qf qm qg))
     unfold set5 at hbz rz hkp hsz9
     generalize ((((w5.setCell ⟨w.heap.size + 2, 0, none⟩ (.int .i64 zk)).setCell ⟨w.heap.size + 2, 1, none⟩ (.int .i64 zn)).setCell ⟨w.heap.size + 2, 2, none⟩ (.string zt)).setCell ⟨w.heap.size + 2, 3, none⟩ (.slice qa ql qc)).setCell ⟨w.heap.size + 2, 4, none⟩ (.slice qf qm qg) = w9 at *
     go_wp2_with fail
     have z0 := box_at (j := 0) rz.out rfl
     have z1 := box_at (j := 1) rz.out rfl
     have z2 := box_at (j := 2) rz.out rfl
     have z3 := box_at (j := 3) rz.out rfl
     have z4 := box_at (j := 4) rz.out rfl
     refine ⟨rfl, _, by simp [results, Tryz.results36, go_sem, z0, z1, z2, z3, z4] <;> exact ⟨rfl, rfl⟩, [.int .i64 zk, .int .i64 zn, .string zt, .slice qa ql qc, .slice qf qm qg], rfl, hbz.out, ?_⟩
     have hs9 := hsz9.out
     have hs5 := D3.out.size
     have hs6 := E5.out.size
     exact hr5.out.keep (fun c h => h.elim (fun h => h.imp id (fun h => ⟨Nat.le_trans hsD.out h.1, by rw [hs9]; exact Nat.lt_of_lt_of_le h.2 hs6⟩)) (fun h => .inr ⟨Nat.le_trans hs5 h.1, by rw [hs9]; exact h.2⟩)) (fun c h => hkp.out c (h.elim (fun h => h.elim (fun h => by have := hSw.out c h; omega) (fun h => by have := h.1; have := hW0s.out; have := hsE.out; omega)) (fun h => by have h9 : we.heap.size ≤ c := h.1; have := hW0s.out; have := hsE.out; have := hsB.out; omega)))
    ·have hne : (qe != 0) = true := by simp [hq]
     have hR2 : R = (VX, qe) := by rw [hR.out]; simp [hq]
     subst hR2
     clear hR hrq hgz
     have c0 := box_at (j := 0) q6.out rfl
     have c1 := box_at (j := 1) q6.out rfl
     have c2 := box_at (j := 2) q6.out rfl
     have c3 := box_at (j := 3) q6.out rfl
     have c4 := box_at (j := 4) q6.out rfl
     have f0 := box_free q6.out
     have b0 := box_at (j := 0) q3.out rfl
     have b1 := box_at (j := 1) q3.out rfl
     have b2 := box_at (j := 2) q3.out rfl
     have b3 := box_at (j := 3) q3.out rfl
     have b4 := box_at (j := 4) q3.out rfl
     go_wp2_with fail
     clear c0 c1 c2 c3 c4
     clear b0 b1 b2 b3 b4
     clear f0
     have hbz := hid (set5_below D3.out (Nat.le_add_right w.heap.size 2) (.int .i64 k) (.int .i64 n0) (.string str) (.slice la l.length lc) (.slice fa fv.length fc))
     have rz := hid (set5_box (u0 := .int .i64 k) (u1 := .int .i64 n0) (u2 := .string str) (u3 := .slice la l.length lc) (u4 := .slice fa fv.length fc) q6.out)
     have hkp := hid (fun b (hb : b ≠ w.heap.size + 2) => set5_other we (w.heap.size + 2) (.int .i64 k) (.int .i64 n0) (.string str) (.slice la l.length lc) (.slice fa fv.length fc) (b := b) hb)
     have hsz9 := hid (set5_size we (w.heap.size + 2) (.int .i64 k) (.int .i64 n0) (.string str) (.slice la l.length lc) (.slice fa fv.length fc))
     unfold set5 at hbz rz hkp hsz9
     generalize ((((we.setCell ⟨w.heap.size + 2, 0, none⟩ (.int .i64 k)).setCell ⟨w.heap.size + 2, 1, none⟩ (.int .i64 n0)).setCell ⟨w.heap.size + 2, 2, none⟩ (.string str)).setCell ⟨w.heap.size + 2, 3, none⟩ (.slice la l.length lc)).setCell ⟨w.heap.size + 2, 4, none⟩ (.slice fa fv.length fc) = w9 at *
     have z0 := box_at (j := 0) rz.out rfl
     have z1 := box_at (j := 1) rz.out rfl
     have z2 := box_at (j := 2) rz.out rfl
     have z3 := box_at (j := 3) rz.out rfl
     have z4 := box_at (j := 4) rz.out rfl
     refine ⟨rfl, _, by simp [results, Tryz.results36, go_sem, z0, z1, z2, z3, z4] <;> exact ⟨rfl, rfl⟩, [.int .i64 k, .int .i64 n0, .string str, .slice la l.length lc, .slice fa fv.length fc], rfl, hbz.out, ?_⟩
     exact hV0.out.keep (fun c h => .inl h) (fun c h => (hkp.out c (by have h8 := hSw.out c h; omega)).trans (D3.out.block c (hSw.out c h)))
end Go.Proofs.YthjihdpleclejaaGreatDoor
