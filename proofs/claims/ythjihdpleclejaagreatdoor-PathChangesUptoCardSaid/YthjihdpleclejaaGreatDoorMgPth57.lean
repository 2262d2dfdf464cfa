/-
  Walk: the reference's unset at a field that is not the last step. No condition.
-/
import Derived.Test.YthjihdpleclejaaGreatDoorMgPth46
import Derived.Test.YthjihdpleclejaaGreatDoorMgPthW
namespace Go.Proofs.YthjihdpleclejaaGreatDoor
open Go.RowKit Go.Proofs
set_option maxRecDepth 100000 in
set_option maxHeartbeats 16000000 in
theorem runset_inF (V y : PVal) (s : ByteArray) (r : List ByteArray) (hz : s.size ≤ 140737488355328) (hp : place s = none) (hr : r ≠ []) (hk6 : V.k = 6) (hy : findP s V.fn V.fv = some y) (hm : V.mass ≤ 100000000000) {S : Nat → Prop} {w : World} {cs : List Value} {sv : Value} (hS : ∀ c, S c → c < w.heap.size) (hV : Rd w S V cs) (hss : StrsAt w (Now w) (s :: r) sv)
  (ih : ∀ (w' : World) (ys : List Value) (sv' : Value), (∀ c, S c → c < w'.heap.size) → Rd w' S y ys → StrsAt w' (Now w') r sv' → Calls Tryz.prog 41 #[.agg ys.toArray, sv'] w' (UnR S (unsetR y r) w')) :
  Calls Tryz.prog 41 #[.agg cs.toArray, sv] w (UnR S (docL ((withR s (unsetR y r) false V.fn V.fv).map Prod.fst) ((withR s (unsetR y r) false V.fn V.fv).map Prod.snd)) w) := by
 unfold UnR at ih ⊢
 obtain ⟨qv, hqv⟩ : ∃ Q, Q = unsetR y r := ⟨_, rfl⟩
 rw [← hqv] at ih ⊢
 clear hqv
 replace ih := hid ih
 have hrl : 1 ≤ r.length := by cases r with
  | nil => exact absurd rfl hr
  | cons _ _ => simp
 clear hr
 have hfd : Hid (∀ w', Below w.heap.size w w' → Calls Tryz.prog 65 #[.agg cs.toArray, .string s] w' fun e w2 => ∃ cs, e = .returned (.tuple #[.agg cs.toArray, .bool true]) ∧ Below w'.heap.size w' w2 ∧ Rd w2 S y cs) := fun w' h => by
  have := rfind_calls s (w := w') (V := V) (cs := cs) (S := S) (fun b hb => Nat.lt_of_lt_of_le (hS b hb) h.size) (hV.keep (fun _ h => h) (fun b hb => h.block b (hS b hb)))
  unfold Stepd findV at this
  rw [if_pos hk6, hy] at this
  exact this
 have hwi := hid (fun (S' : Nat → Prop) (w' : World) (xs : List Value) (hs : ∀ c, S c → S' c) (h : Below w.heap.size w w') (h2 : ∀ c, S' c → c < w'.heap.size) (h3 : Rd w' S' qv xs) => rwith_calls (S := S') V qv s hz false (w := w') (cs := cs) (xs := xs) h2 hm (hV.keep hs (fun c hc => h.block c (hS c hc))) h3)
 obtain ⟨RV, hRV⟩ : ∃ R, R = docL ((withR s qv false V.fn V.fv).map Prod.fst) ((withR s qv false V.fn V.fv).map Prod.snd) := ⟨_, rfl⟩
 rw [← hRV] at hwi ⊢
 clear hRV hk6 hy
 have hSw := hid hS
 obtain ⟨sa, sc, rfl, _⟩ := id hss
 obtain ⟨sb, so, rfl, hn1, hsc1, hsc2, hsb, hsc⟩ := hss.head
 have hss0 := hid hss
 replace hsb := hid hsb
 have hsc0 := hid hsc
 clear hss hn1 hsc
 simp only [List.length_cons] at hss0 ⊢
 have hpl := hid (fun w => rplace_calls s w hz)
 unfold placeZ at hpl
 rw [hp] at hpl
 obtain ⟨vk, vn, vt, va, vl, vc, vf, vm, vg, rfl⟩ := hV.five
 clear hV hp hS hm
 obtain ⟨W0, hW0⟩ : ∃ W0, W0 = (w.alloc (.cells #[.int .i64 vk, .int .i64 vn, .string vt, .slice va vl vc, .slice vf vm vg] 25)).alloc (.cells #[.int .i64 0, .int .i64 0, .string ⟨#[]⟩, .slice none 0 0, .slice none 0 0] 25) := ⟨_, rfl⟩
 have D : Hid (Below w.heap.size w W0) := by show Below _ _ _; rw [hW0]; exact ((below_new _ _).step (below_new _ _))
 have r2 : Hid (W0.heap[w.heap.size]? = some (.cells #[.int .i64 vk, .int .i64 vn, .string vt, .slice va vl vc, .slice vf vm vg] 25 (0, 0))) := by show _ = _; rw [hW0]; exact (al_old (al_at rfl))
 have r4 : Hid (W0.heap[w.heap.size + 1]? = some (.cells #[.int .i64 0, .int .i64 0, .string ⟨#[]⟩, .slice none 0 0, .slice none 0 0] 25 (0, 0))) := by show _ = _; rw [hW0]; exact (al_at (by simp))
 have hW0s : Hid (w.heap.size + 1 < W0.heap.size) := lt_of_block r4.out
 go_enter Tryz.func41, Tryz.ntmps41
 go_upto_region 1 with fail
 rw [← hW0]
 clear hW0
 have s0 := (World.cell?_of_block (w := w) (D.out.block sb hsb.out)).trans hsc0.out
 go_wp2_with fail
 refine (hpl.out _).mono ?_
 rintro e w1 ⟨rfl, hw1⟩
 subst hw1
 clear hpl s0
 have hr0 : (1 : Int) < (r.length : Int) + 1 := by omega
 have hmn : ¬ (0 : Int) ≤ (-1 : Int) := by omega
 go_upto_region 5 with fail
 clear hr0 hmn
 have hSS : Hid (∀ x : World, (∀ b, b < w1.heap.size → x.heap[b]? = w1.heap[b]?) → RhS w.heap.size sb so (.int .i64 vk) (.int .i64 vn) (.string vt) (.slice va vl vc) (.slice vf vm vg) s x) := fun x h => by
  have hB := (h _ (lt_of_block r2.out)).trans r2.out
  have hc := (World.cell?_of_block (w := w1) (a := ⟨sb, so, none⟩) (h sb (Nat.lt_of_lt_of_le hsb.out D.out.size))).trans ((D.out.cell (p := ⟨sb, _, none⟩) hsb.out).trans hsc0.out)
  exact ⟨box_at (j := 0) hB rfl, box_at (j := 1) hB rfl, box_at (j := 2) hB rfl, box_at (j := 3) hB rfl, box_at (j := 4) hB rfl, hc⟩
 go_cut [6, 7] from 29 to 36 (fun s6 _ wx => ∃ (gx : Nat) (v0 v1 v2 v3 v4 : Value), s6 = .pointer (some ⟨gx, 0, none⟩) ∧ wx.heap[gx]? = some (.cells #[v0, v1, v2, v3, v4] 25 (0, 0)) ∧ w1.heap.size ≤ gx ∧ Rd wx S y [v0, v1, v2, v3, v4] ∧ Below w1.heap.size w1 wx)
 case first =>
  refine wp_region_T (RhS w.heap.size sb so (.int .i64 vk) (.int .i64 vn) (.string vt) (.slice va vl vc) (.slice vf vm vg) s) 10 (by kernel_rfl) ?_
  have hT0 := hSS.out w1.drew (fun _ _ => rfl)
  ((refine wpAnyT_take (i := 0) (v := ?_) rfl (by kernel_rfl) (by kernel_rfl) (by kernel_rfl) (by kernel_rfl) (by exact fun _ _ _ h => h) (Or.inl ⟨by kernel_rfl, ?_⟩) hT0 ?_; rotate_left 1; focus (intro w hSw; unfold RhS at hSw; (try dsimp only at hSw); go_simp; try with_reducible rfl); (try simp only [List.getElem_toArray, List.getElem_cons_zero, List.getElem_cons_succ, Act.put, List.setIfInBounds_toArray, List.set_cons_zero, List.set_cons_succ])); (refine wpAnyT_take (i := 1) (v := ?_) rfl (by kernel_rfl) (by kernel_rfl) (by kernel_rfl) (by kernel_rfl) (by exact fun _ _ _ h => h) (Or.inl ⟨by kernel_rfl, ?_⟩) hT0 ?_; rotate_left 1; focus (intro w hSw; unfold RhS at hSw; (try dsimp only at hSw); go_simp; try with_reducible rfl); (try simp only [List.getElem_toArray, List.getElem_cons_zero, List.getElem_cons_succ, Act.put, List.setIfInBounds_toArray, List.set_cons_zero, List.set_cons_succ])); (refine wpAnyT_take (i := 2) (v := ?_) rfl (by kernel_rfl) (by kernel_rfl) (by kernel_rfl) (by kernel_rfl) (by exact fun _ _ _ h => h) (Or.inl ⟨by kernel_rfl, ?_⟩) hT0 ?_; rotate_left 1; focus (intro w hSw; unfold RhS at hSw; (try dsimp only at hSw); go_simp; try with_reducible rfl); (try simp only [List.getElem_toArray, List.getElem_cons_zero, List.getElem_cons_succ, Act.put, List.setIfInBounds_toArray, List.set_cons_zero, List.set_cons_succ])); (refine wpAnyT_take (i := 3) (v := ?_) rfl (by kernel_rfl) (by kernel_rfl) (by kernel_rfl) (by kernel_rfl) (by exact fun _ _ _ h => h) (Or.inl ⟨by kernel_rfl, ?_⟩) hT0 ?_; rotate_left 1; focus (intro w hSw; unfold RhS at hSw; (try dsimp only at hSw); go_simp; try with_reducible rfl); (try simp only [List.getElem_toArray, List.getElem_cons_zero, List.getElem_cons_succ, Act.put, List.setIfInBounds_toArray, List.set_cons_zero, List.set_cons_succ])))
  refine wpAnyT_two (i := 4) (j := 8) (by kernel_rfl) rfl rfl (fun K hK => ?_) (fun K hK => ?_)
  ·go_simp
   refine (hfd.out w1.drew (D.out.trans ((Below.refl w1.heap.size w1).drew.mono D.out.size))).mono ?_
   rintro e w4 ⟨cs4, rfl, h4, hr4⟩
   have E := hid ((Below.refl w1.heap.size w1).drew.step h4)
   have hT1 := hSS.out w4 E.out.block
   obtain ⟨zk, zn, zt, qa, ql, qc, qf, qm, qg, rfl⟩ := hr4.five
   replace hr4 := hid hr4
   clear h4 hT0
   (refine hK.out _ _ (fun _ => hT1) (fun _ => ?_); clear hK K; (try simp only [Act.put, List.setIfInBounds_toArray, List.set_cons_zero, List.set_cons_succ]))
   ((refine wpAnyT_take (i := 5) (v := ?_) rfl (by kernel_rfl) (by kernel_rfl) (by kernel_rfl) (by kernel_rfl) (by exact fun _ _ _ h => h) (Or.inl ⟨by kernel_rfl, ?_⟩) hT1 ?_; rotate_left 1; focus (intro w hSw; unfold RhS at hSw; (try dsimp only at hSw); go_simp; try with_reducible rfl); (try simp only [List.getElem_toArray, List.getElem_cons_zero, List.getElem_cons_succ, Act.put, List.setIfInBounds_toArray, List.set_cons_zero, List.set_cons_succ])); (refine wpAnyT_take (i := 6) (v := ?_) rfl (by kernel_rfl) (by kernel_rfl) (by kernel_rfl) (by kernel_rfl) (by exact fun _ _ _ h => h) (Or.inl ⟨by kernel_rfl, ?_⟩) hT1 ?_; rotate_left 1; focus (intro w hSw; unfold RhS at hSw; (try dsimp only at hSw); go_simp; try with_reducible rfl); (try simp only [List.getElem_toArray, List.getElem_cons_zero, List.getElem_cons_succ, Act.put, List.setIfInBounds_toArray, List.set_cons_zero, List.set_cons_succ])); (refine wpAnyT_take (i := 7) (v := ?_) rfl (by kernel_rfl) (by kernel_rfl) (by kernel_rfl) (by kernel_rfl) (by exact fun _ _ _ h => h) (Or.inl ⟨by kernel_rfl, ?_⟩) hT1 ?_; rotate_left 1; focus (intro w hSw; unfold RhS at hSw; (try dsimp only at hSw); go_simp; try with_reducible rfl); (try simp only [List.getElem_toArray, List.getElem_cons_zero, List.getElem_cons_succ, Act.put, List.setIfInBounds_toArray, List.set_cons_zero, List.set_cons_succ])))
   refine wpAnyT_one (i := 8) (by kernel_rfl) rfl (fun K hK => ?_)
   go_simp
   have E2 := hid (E.out.step (below_new w4 (.cells #[.int .i64 0, .int .i64 0, .string ⟨#[]⟩, .slice none 0 0, .slice none 0 0] 25)))
   have hT2 := hSS.out _ E2.out.block
   (refine hK.out _ _ (fun _ => hT2) (fun _ => ?_); clear hK K; (try simp only [Act.put, List.setIfInBounds_toArray, List.set_cons_zero, List.set_cons_succ]))
   refine wpAnyT_one (i := 9) (by kernel_rfl) rfl (fun K hK => ?_)
   go_simp
   have E3 := hid (E.out.step (below_new w4 (.cells #[.int .i64 zk, .int .i64 zn, .string zt, .slice qa ql qc, .slice qf qm qg] 25)))
   have hT3 := hSS.out _ E3.out.block
   (refine hK.out _ _ (fun _ => hT3) (fun _ => ?_); clear hK K; (try simp only [Act.put, List.setIfInBounds_toArray, List.set_cons_zero, List.set_cons_succ]))
   refine wpAnyT_one (i := 10) (by kernel_rfl) rfl (fun K hK => ?_)
   go_simp
   (refine hK.out _ _ (fun h => absurd h (by decide)) (fun _ => ?_); clear hK K; (try simp only [Act.put, List.setIfInBounds_toArray, List.set_cons_zero, List.set_cons_succ]))
   refine wpAnyT_done (by kernel_rfl) ?_ _
   go_wp2_with fail
   go_meet
   exact (⟨_, _, _, _, _, _, rfl, heap_alloc_new w4 _, E.out.size, hr4.out.keep (fun _ h => h) (fun b hb => (below_new w4 _).block b (Nat.lt_of_lt_of_le (hSw.out b hb) (Nat.le_trans D.out.size E.out.size))), E3.out⟩)
  ·go_simp
   obtain ⟨wg, hwg⟩ : ∃ wg, wg = w1.alloc (.cells #[.int .i64 0, .int .i64 0, .string ⟨#[]⟩, .slice none 0 0, .slice none 0 0] 25) := ⟨_, rfl⟩
   have E1 : Hid (Below w1.heap.size w1 wg) := by show Below _ _ _; rw [hwg]; exact below_new _ _
   have gz : Hid (wg.heap[w1.heap.size]? = some (.cells #[.int .i64 0, .int .i64 0, .string ⟨#[]⟩, .slice none 0 0, .slice none 0 0] 25 (0, 0))) := by show _ = _; rw [hwg]; exact heap_alloc_new _ _
   have gs : Hid (wg.heap.size = w1.heap.size + 1) := by show _ = _; rw [hwg]; simp
   rw [← hwg]
   clear hwg
   have hT1 := hSS.out wg.drew E1.out.block
   clear hT0
   (refine hK.out _ _ (fun _ => hT1) (fun _ => ?_); clear hK K; (try simp only [Act.put, List.setIfInBounds_toArray, List.set_cons_zero, List.set_cons_succ]))
   refine wpAnyT_one (i := 4) (by kernel_rfl) rfl (fun K hK => ?_)
   go_simp
   refine (hfd.out wg.drew (D.out.step (E1.out.step (Below.refl wg.heap.size wg).drew))).mono ?_
   rintro e w4 ⟨cs4, rfl, h4, hr4⟩
   have E := hid (E1.out.step ((Below.refl wg.heap.size wg).drew.step h4))
   have g4 := hid (((Below.refl wg.heap.size wg).drew.step h4).block _ (lt_of_block gz.out) |>.trans gz.out)
   have hT2 := hSS.out _ E.out.block
   obtain ⟨zk, zn, zt, qa, ql, qc, qf, qm, qg, rfl⟩ := hr4.five
   replace hr4 := hid hr4
   clear h4 hT1
   (refine hK.out _ _ (fun _ => hT2) (fun _ => ?_); clear hK K; (try simp only [Act.put, List.setIfInBounds_toArray, List.set_cons_zero, List.set_cons_succ]))
   ((refine wpAnyT_take (i := 5) (v := ?_) rfl (by kernel_rfl) (by kernel_rfl) (by kernel_rfl) (by kernel_rfl) (by exact fun _ _ _ h => h) (Or.inl ⟨by kernel_rfl, ?_⟩) hT2 ?_; rotate_left 1; focus (intro w hSw; unfold RhS at hSw; (try dsimp only at hSw); go_simp; try with_reducible rfl); (try simp only [List.getElem_toArray, List.getElem_cons_zero, List.getElem_cons_succ, Act.put, List.setIfInBounds_toArray, List.set_cons_zero, List.set_cons_succ])); (refine wpAnyT_take (i := 6) (v := ?_) rfl (by kernel_rfl) (by kernel_rfl) (by kernel_rfl) (by kernel_rfl) (by exact fun _ _ _ h => h) (Or.inl ⟨by kernel_rfl, ?_⟩) hT2 ?_; rotate_left 1; focus (intro w hSw; unfold RhS at hSw; (try dsimp only at hSw); go_simp; try with_reducible rfl); (try simp only [List.getElem_toArray, List.getElem_cons_zero, List.getElem_cons_succ, Act.put, List.setIfInBounds_toArray, List.set_cons_zero, List.set_cons_succ])); (refine wpAnyT_take (i := 7) (v := ?_) rfl (by kernel_rfl) (by kernel_rfl) (by kernel_rfl) (by kernel_rfl) (by exact fun _ _ _ h => h) (Or.inl ⟨by kernel_rfl, ?_⟩) hT2 ?_; rotate_left 1; focus (intro w hSw; unfold RhS at hSw; (try dsimp only at hSw); go_simp; try with_reducible rfl); (try simp only [List.getElem_toArray, List.getElem_cons_zero, List.getElem_cons_succ, Act.put, List.setIfInBounds_toArray, List.set_cons_zero, List.set_cons_succ])))
   have c0 := box_at (j := 0) g4.out rfl
   have c1 := box_at (j := 1) g4.out rfl
   have c2 := box_at (j := 2) g4.out rfl
   have c3 := box_at (j := 3) g4.out rfl
   have c4 := box_at (j := 4) g4.out rfl
   have f0 := box_free g4.out
   refine wpAnyT_one (i := 9) (by kernel_rfl) rfl (fun K hK => ?_)
   go_simp
   clear c0 c1 c2 c3 c4
   clear f0
   have hbz := hid (set5_below E.out (Nat.le_refl _) (.int .i64 zk) (.int .i64 zn) (.string zt) (.slice qa ql qc) (.slice qf qm qg))
   have rz := hid (set5_box (u0 := .int .i64 zk) (u1 := .int .i64 zn) (u2 := .string zt) (u3 := .slice qa ql qc) (u4 := .slice qf qm qg) g4.out)
   have hkp := hid (fun bq (hb : bq ≠ w1.heap.size) => set5_other w4 (w1.heap.size) (.int .i64 zk) (.int .i64 zn) (.string zt) (.slice qa ql qc) (.slice qf qm qg) (b := bq) hb)
   have hsz9 := hid (set5_size w4 (w1.heap.size) (.int .i64 zk) (.int .i64 zn) (.string zt) (.slice qa ql qc) (.slice qf qm qg))
   unfold set5 at hbz rz hkp hsz9
   generalize ((((w4.setCell ⟨w1.heap.size, 0, none⟩ (.int .i64 zk)).setCell ⟨w1.heap.size, 1, none⟩ (.int .i64 zn)).setCell ⟨w1.heap.size, 2, none⟩ (.string zt)).setCell ⟨w1.heap.size, 3, none⟩ (.slice qa ql qc)).setCell ⟨w1.heap.size, 4, none⟩ (.slice qf qm qg) = w9 at *
   have hT3 := hSS.out _ hbz.out.block
   clear hT2
   (refine hK.out _ _ (fun _ => hT3) (fun _ => ?_); clear hK K; (try simp only [Act.put, List.setIfInBounds_toArray, List.set_cons_zero, List.set_cons_succ]))
   refine wpAnyT_one (i := 10) (by kernel_rfl) rfl (fun K hK => ?_)
   go_simp
   (refine hK.out _ _ (fun h => absurd h (by decide)) (fun _ => ?_); clear hK K; (try simp only [Act.put, List.setIfInBounds_toArray, List.set_cons_zero, List.set_cons_succ]))
   refine wpAnyT_done (by kernel_rfl) ?_ _
   go_wp2_with fail
   go_meet
   have hgs2 : wg.drew.heap.size = w1.heap.size + 1 := gs.out
   exact (⟨_, _, _, _, _, _, rfl, rz.out, Nat.le_refl _, hr4.out.keep (fun _ h => h) (fun b hb => hkp.out b (by have := hSw.out b hb; have := D.out.size; omega)), hbz.out⟩)
 case rest =>
  obtain ⟨gx, x0, x1, x2, x3, x4, rfl, hgx, hge, hrx, hE⟩ := hcut
  obtain ⟨wb, hwb⟩ : ∃ x, x = wc := ⟨_, rfl⟩
  subst hwb
  replace hgx := hid hgx
  replace hrx := hid hrx
  clear hSS hfd hge
  have D2 := hid (D.out.step hE)
  have hs2 := hid hE.size
  have q2 := hid ((hE.block _ (lt_of_block r2.out)).trans r2.out)
  have q4 := hid ((hE.block _ (lt_of_block r4.out)).trans r4.out)
  clear hE r2 r4
  have ih2 := hid (fun (w' : World) (sv' : Value) (hb : Below wb.heap.size wb w') (hs : StrsAt w' (Now w') r sv') => ih.out w' [x0, x1, x2, x3, x4] sv' (fun c h => Nat.lt_of_lt_of_le (hSw.out c h) (Nat.le_trans D2.out.size hb.size)) (hrx.out.keep (fun _ h => h) (fun c h => hb.block c (Nat.lt_of_lt_of_le (hSw.out c h) D2.out.size))) hs)
  clear ih hrx
  have hsk := hid (fun w' (h : Below wb.heap.size wb w') => hss0.out.later (D2.out.step h))
  have hSS : Hid (∀ x : World, (∀ c, c < wb.heap.size → x.heap[c]? = wb.heap[c]?) → UcS w.heap.size (.int .i64 vk) (.int .i64 vn) (.string vt) (.slice va vl vc) (.slice vf vm vg) sb so s gx x0 x1 x2 x3 x4 x) := fun x h => by
   have hB := (h _ (lt_of_block q2.out)).trans q2.out
   have hG := (h _ (lt_of_block hgx.out)).trans hgx.out
   have hc := (World.cell?_of_block (w := wb) (a := ⟨sb, so, none⟩) (h sb (Nat.lt_of_lt_of_le hsb.out D2.out.size))).trans ((D2.out.cell (p := ⟨sb, _, none⟩) hsb.out).trans hsc0.out)
   exact ⟨box_at (j := 0) hB rfl, box_at (j := 1) hB rfl, box_at (j := 2) hB rfl, box_at (j := 3) hB rfl, box_at (j := 4) hB rfl, hc, box_at (j := 0) hG rfl, box_at (j := 1) hG rfl, box_at (j := 2) hG rfl, box_at (j := 3) hG rfl, box_at (j := 4) hG rfl⟩
  have hr1 : (1 : Int) ≤ (r.length : Int) + 1 := by omega
  have hc1 : ¬ sc = 1 := by omega
  replace hrl := hid hrl
  go_upto_region 6 with fail
  refine wp_region_T (UcS w.heap.size (.int .i64 vk) (.int .i64 vn) (.string vt) (.slice va vl vc) (.slice vf vm vg) sb so s gx x0 x1 x2 x3 x4) 9 (by kernel_rfl) ?_
  have hT0 := hSS.out wb.drew (fun _ _ => rfl)
  ((refine wpAnyT_take (i := 0) (v := ?_) rfl (by kernel_rfl) (by kernel_rfl) (by kernel_rfl) (by kernel_rfl) (by exact fun _ _ _ h => h) (Or.inl ⟨by kernel_rfl, ?_⟩) hT0 ?_; rotate_left 1; focus (intro w hSw; unfold UcS at hSw; (try dsimp only at hSw); go_simp; try with_reducible rfl); (try simp only [List.getElem_toArray, List.getElem_cons_zero, List.getElem_cons_succ, Act.put, List.setIfInBounds_toArray, List.set_cons_zero, List.set_cons_succ])); (refine wpAnyT_take (i := 1) (v := ?_) rfl (by kernel_rfl) (by kernel_rfl) (by kernel_rfl) (by kernel_rfl) (by exact fun _ _ _ h => h) (Or.inl ⟨by kernel_rfl, ?_⟩) hT0 ?_; rotate_left 1; focus (intro w hSw; unfold UcS at hSw; (try dsimp only at hSw); go_simp; try with_reducible rfl); (try simp only [List.getElem_toArray, List.getElem_cons_zero, List.getElem_cons_succ, Act.put, List.setIfInBounds_toArray, List.set_cons_zero, List.set_cons_succ])); (refine wpAnyT_take (i := 2) (v := ?_) rfl (by kernel_rfl) (by kernel_rfl) (by kernel_rfl) (by kernel_rfl) (by exact fun _ _ _ h => h) (Or.inl ⟨by kernel_rfl, ?_⟩) hT0 ?_; rotate_left 1; focus (intro w hSw; unfold UcS at hSw; (try dsimp only at hSw); go_simp; try with_reducible rfl); (try simp only [List.getElem_toArray, List.getElem_cons_zero, List.getElem_cons_succ, Act.put, List.setIfInBounds_toArray, List.set_cons_zero, List.set_cons_succ])); (refine wpAnyT_take (i := 3) (v := ?_) rfl (by kernel_rfl) (by kernel_rfl) (by kernel_rfl) (by kernel_rfl) (by exact fun _ _ _ h => h) (Or.inl ⟨by kernel_rfl, ?_⟩) hT0 ?_; rotate_left 1; focus (intro w hSw; unfold UcS at hSw; (try dsimp only at hSw); go_simp; try with_reducible rfl); (try simp only [List.getElem_toArray, List.getElem_cons_zero, List.getElem_cons_succ, Act.put, List.setIfInBounds_toArray, List.set_cons_zero, List.set_cons_succ])); (refine wpAnyT_take (i := 4) (v := ?_) rfl (by kernel_rfl) (by kernel_rfl) (by kernel_rfl) (by kernel_rfl) (by exact fun _ _ _ h => h) (Or.inl ⟨by kernel_rfl, ?_⟩) hT0 ?_; rotate_left 1; focus (intro w hSw; unfold UcS at hSw; (try dsimp only at hSw); go_simp; try with_reducible rfl); (try simp only [List.getElem_toArray, List.getElem_cons_zero, List.getElem_cons_succ, Act.put, List.setIfInBounds_toArray, List.set_cons_zero, List.set_cons_succ])); (refine wpAnyT_take (i := 5) (v := ?_) rfl (by kernel_rfl) (by kernel_rfl) (by kernel_rfl) (by kernel_rfl) (by exact fun _ _ _ h => h) (Or.inl ⟨by kernel_rfl, ?_⟩) hT0 ?_; rotate_left 1; focus (intro w hSw; unfold UcS at hSw; (try dsimp only at hSw); go_simp; try with_reducible rfl); (try simp only [List.getElem_toArray, List.getElem_cons_zero, List.getElem_cons_succ, Act.put, List.setIfInBounds_toArray, List.set_cons_zero, List.set_cons_succ])); (refine wpAnyT_take (i := 6) (v := ?_) rfl (by kernel_rfl) (by kernel_rfl) (by kernel_rfl) (by kernel_rfl) (by exact fun _ _ _ h => h) (Or.inl ⟨by kernel_rfl, ?_⟩) hT0 ?_; rotate_left 1; focus (intro w hSw; unfold UcS at hSw; (try dsimp only at hSw); go_simp; try with_reducible rfl); (try simp only [List.getElem_toArray, List.getElem_cons_zero, List.getElem_cons_succ, Act.put, List.setIfInBounds_toArray, List.set_cons_zero, List.set_cons_succ])))
  refine wpAnyT_one (i := 7) (by kernel_rfl) rfl (fun K hK => ?_)
  go_simp
  refine (ih2.out wb.drew _ (Below.refl wb.heap.size wb).drew (hsk.out _ (Below.refl wb.heap.size wb).drew).tail).mono ?_
  rintro e w4 ⟨cs4, rfl, h4, hr4⟩
  have E := hid ((Below.refl wb.heap.size wb).drew.step h4)
  have D4 := hid (D2.out.step E.out)
  have hs4 : Hid (wb.heap.size ≤ w4.heap.size) := E.out.size
  have hT1 := hSS.out w4 E.out.block
  obtain ⟨zk, zn, zt, qa, ql, qc, qf, qm, qg, rfl⟩ := hr4.five
  replace hr4 := hid hr4
  clear h4 hT0 ih2
  (refine hK.out _ _ (fun _ => hT1) (fun _ => ?_); clear hK K; (try simp only [Act.put, List.setIfInBounds_toArray, List.set_cons_zero, List.set_cons_succ]))
  refine wpAnyT_one (i := 8) (by kernel_rfl) rfl (fun K hK => ?_)
  go_simp
  refine (hwi.out (fun c => S c ∨ From wb.heap.size w4 c) w4 [.int .i64 zk, .int .i64 zn, .string zt, .slice qa ql qc, .slice qf qm qg] (fun _ h => .inl h) D4.out (fun c h => h.elim (fun h => Nat.lt_of_lt_of_le (hSw.out c h) D4.out.size) (fun h => h.2)) hr4.out).mono ?_
  rintro e w5 ⟨cs5, rfl, h5, hr5⟩
  have E5 := hid (E.out.step h5)
  have D5 := hid (D2.out.step E5.out)
  have hs5 : Hid (w4.heap.size ≤ w5.heap.size) := h5.size
  have hT2 := hSS.out w5 E5.out.block
  obtain ⟨mk, mn, mt, ma, ml, mc, mf, mm, mg, rfl⟩ := hr5.five
  replace hr5 := hid hr5
  clear h5 hT1 hr4
  (refine hK.out _ _ (fun _ => hT2) (fun _ => ?_); clear hK K; (try simp only [Act.put, List.setIfInBounds_toArray, List.set_cons_zero, List.set_cons_succ]))
  have p4 := hid ((E5.out.block _ (lt_of_block q4.out)).trans q4.out)
  have c0 := box_at (j := 0) p4.out rfl
  have c1 := box_at (j := 1) p4.out rfl
  have c2 := box_at (j := 2) p4.out rfl
  have c3 := box_at (j := 3) p4.out rfl
  have c4 := box_at (j := 4) p4.out rfl
  have f0 := box_free p4.out
  refine wpAnyT_one (i := 9) (by kernel_rfl) rfl (fun K hK => ?_)
  go_simp
  (refine hK.out _ _ (fun h => absurd h (by decide)) (fun _ => ?_); clear hK K; (try simp only [Act.put, List.setIfInBounds_toArray]))
  refine wpAnyT_done (by kernel_rfl) ?_ _
  clear c0 c1 c2 c3 c4
  clear f0 hT2
  have hbz := hid (set5_below D5.out (Nat.le_add_right w.heap.size 1) (.int .i64 mk) (.int .i64 mn) (.string mt) (.slice ma ml mc) (.slice mf mm mg))
  have rz := hid (set5_box (u0 := .int .i64 mk) (u1 := .int .i64 mn) (u2 := .string mt) (u3 := .slice ma ml mc) (u4 := .slice mf mm mg) p4.out)
  have hkp := hid (fun bq (hb : bq ≠ w.heap.size + 1) => set5_other w5 (w.heap.size + 1) (.int .i64 mk) (.int .i64 mn) (.string mt) (.slice ma ml mc) (.slice mf mm mg) (b := bq) hb)
  have hsz9 := hid (set5_size w5 (w.heap.size + 1) (.int .i64 mk) (.int .i64 mn) (.string mt) (.slice ma ml mc) (.slice mf mm mg))
  unfold set5 at hbz rz hkp hsz9
  generalize ((((w5.setCell ⟨w.heap.size + 1, 0, none⟩ (.int .i64 mk)).setCell ⟨w.heap.size + 1, 1, none⟩ (.int .i64 mn)).setCell ⟨w.heap.size + 1, 2, none⟩ (.string mt)).setCell ⟨w.heap.size + 1, 3, none⟩ (.slice ma ml mc)).setCell ⟨w.heap.size + 1, 4, none⟩ (.slice mf mm mg) = w9 at *
  go_wp2_with fail
  have z0 := box_at (j := 0) rz.out rfl
  have z1 := box_at (j := 1) rz.out rfl
  have z2 := box_at (j := 2) rz.out rfl
  have z3 := box_at (j := 3) rz.out rfl
  have z4 := box_at (j := 4) rz.out rfl
  refine ⟨rfl, _, by simp [results, Tryz.results41, go_sem, z0, z1, z2, z3, z4] <;> exact ⟨rfl, rfl⟩, [.int .i64 mk, .int .i64 mn, .string mt, .slice ma ml mc, .slice mf mm mg], rfl, hbz.out, ?_⟩
  have e9 := hsz9.out
  have e8 := hW0s.out
  exact un_keep (g := w.heap.size + 1) hr5.out (fun c h => by have e2 := hs2.out; have e4 := hs4.out; have e5 := hs5.out; exact h.elim (fun h => h.imp id (fun h => ⟨by have := h.1; omega, by have := h.2; omega⟩)) (fun h => .inr ⟨by have := h.1; omega, h.2⟩)) hSw.out (Nat.le_add_right _ _) hkp.out hsz9.out
end Go.Proofs.YthjihdpleclejaaGreatDoor
