/-
  Walk: the reference's set, a List's part. No condition.
-/
import Derived.Test.YthjihdpleclejaaGreatDoorMgPth44
namespace Go.Proofs.YthjihdpleclejaaGreatDoor
open Go.RowKit Go.Proofs
def SetS (A : Nat) (L : Value) (b o : Nat) (v0 v1 v2 v3 v4 : Value) (B : Nat) (u0 u1 u2 u3 u4 : Value) (x : World) : Prop := x.cell? ⟨A, 3, none⟩ = some L ∧ (x.cell? ⟨b, o, none⟩ = some v0 ∧ x.cell? ⟨b, o + 1, none⟩ = some v1 ∧ x.cell? ⟨b, o + 2, none⟩ = some v2 ∧ x.cell? ⟨b, o + 3, none⟩ = some v3 ∧ x.cell? ⟨b, o + 4, none⟩ = some v4) ∧ x.cell? ⟨B, 0, none⟩ = some u0 ∧ x.cell? ⟨B, 1, none⟩ = some u1 ∧ x.cell? ⟨B, 2, none⟩ = some u2 ∧ x.cell? ⟨B, 3, none⟩ = some u3 ∧ x.cell? ⟨B, 4, none⟩ = some u4
set_option maxRecDepth 100000 in
set_option maxHeartbeats 16000000 in
theorem rset_inL (V X0 y : PVal) (s : ByteArray) (r : List ByteArray) (n : Nat) (hz : s.size ≤ 140737488355328) (hp : place s = some n) (hk5 : V.k = 5) (hy : V.l[n]? = some y) (hm : V.mass ≤ 100000000000) {S : Nat → Prop} {w : World} {cs xs : List Value} {sv : Value} (hS : ∀ c, S c → c < w.heap.size) (hV : Rd w S V cs) (hx : Rd w S X0 xs) (hss : StrsAt w (Now w) (s :: r) sv)
  (ih : ∀ (w' : World) (ys xs' : List Value) (sv' : Value), (∀ c, S c → c < w'.heap.size) → Rd w' S y ys → Rd w' S X0 xs' → StrsAt w' (Now w') r sv' → Calls Tryz.prog 36 #[.agg ys.toArray, sv', .agg xs'.toArray] w' (TellR S (setR y r X0) w')) :
  Calls Tryz.prog 36 #[.agg cs.toArray, sv, .agg xs.toArray] w (TellR S (setR V (s :: r) X0) w) := by
 obtain ⟨R, hR⟩ : ∃ R, R = setR V (s :: r) X0 := ⟨_, rfl⟩
 rw [← hR]
 rw [setR, hp] at hR
 simp only [hk5, hy, ne_eq, not_true_eq_false, if_false] at hR
 unfold TellR at ih ⊢
 obtain ⟨Q, hQ⟩ : ∃ Q, Q = setR y r X0 := ⟨_, rfl⟩
 rw [← hQ] at ih hR
 obtain ⟨qv, qe⟩ := Q
 clear hQ
 have hpl := hid (fun w => rplace_calls s w hz)
 unfold placeZ at hpl
 rw [hp] at hpl
 obtain ⟨sa, sc, rfl, _⟩ := id hss
 obtain ⟨sb, so, rfl, hn1, hsc1, hsc2, hsb, hsc⟩ := hss.head
 have hss0 := hid hss
 replace hsb := hid hsb
 have hsc0 := hid hsc
 clear hss hn1 hsc
 simp only [List.length_cons] at hss0 ⊢
 have hV0 := hid hV
 obtain ⟨VX, hVX⟩ : ∃ VX, VX = V := ⟨_, rfl⟩
 rw [← hVX] at hR hV0
 have hmX := hid (show VX.mass ≤ 100000000000 from by rw [hVX]; exact hm)
 have hx0 := hid hx
 have hSw := hid hS
 obtain ⟨k, n0, str, l, fn, fv⟩ := V
 simp only [PVal.k, PVal.l] at hk5 hy
 obtain ⟨la, lc, fa, fc, rfl, _, _, _, _, _, _, _, hL, _⟩ := hV.inv
 obtain ⟨b, off, ys, rfl, hSb, hc, hry⟩ := hL.at_ hy
 obtain ⟨yk, yn, yt, ya, yl, yc, yf, ym, yg, rfl⟩ := hry.five
 replace hk5 := hid hk5
 replace hy := hid hy
 replace hVX := hid hVX
 replace hR := hid hR
 obtain ⟨uk, un, ut, ua, ul, uc, uf, um, ug, rfl⟩ := hx.five
 clear hV hx hS
 obtain ⟨W0, hW0⟩ : ∃ W0, W0 = ((w.alloc (.cells #[.int .i64 k, .int .i64 n0, .string str, .slice (some ⟨b, off, none⟩) l.length lc, .slice fa fv.length fc] 25)).alloc (.cells #[.int .i64 uk, .int .i64 un, .string ut, .slice ua ul uc, .slice uf um ug] 25)).alloc (.cells #[.int .i64 0, .int .i64 0, .string ⟨#[]⟩, .slice none 0 0, .slice none 0 0] 25) := ⟨_, rfl⟩
 have D : Hid (Below w.heap.size w W0) := by show Below _ _ _; rw [hW0]; exact ((below_new _ _).step (below_new _ _)).step (below_new _ _)
 have r3 : Hid (W0.heap[w.heap.size]? = some (.cells #[.int .i64 k, .int .i64 n0, .string str, .slice (some ⟨b, off, none⟩) l.length lc, .slice fa fv.length fc] 25 (0, 0))) := by show _ = _; rw [hW0]; exact al_old (al_old (al_at rfl))
 have r5 : Hid (W0.heap[w.heap.size + 1]? = some (.cells #[.int .i64 uk, .int .i64 un, .string ut, .slice ua ul uc, .slice uf um ug] 25 (0, 0))) := by show _ = _; rw [hW0]; exact al_old (al_at (by simp))
 have r6 : Hid (W0.heap[w.heap.size + 2]? = some (.cells #[.int .i64 0, .int .i64 0, .string ⟨#[]⟩, .slice none 0 0, .slice none 0 0] 25 (0, 0))) := by show _ = _; rw [hW0]; exact al_at (by simp)
 have hW0s : Hid (w.heap.size + 2 < W0.heap.size) := lt_of_block r6.out
 go_enter Tryz.func36, Tryz.ntmps36
 go_upto_region 1 with fail
 rw [← hW0]
 clear hW0
 have hnl : n < l.length := (List.getElem?_eq_some_iff.1 hy.out).1
 replace hc := hid hc
 replace hSb := hid hSb
 have hry0 := hid hry
 clear hL hry
 have s0 := (World.cell?_of_block (w := w) (D.out.block sb hsb.out)).trans hsc0.out
 go_wp2_with fail
 refine (hpl.out _).mono ?_
 rintro e w1 ⟨rfl, hw1⟩
 subst hw1
 clear hpl s0
 replace ih := hid (fun (w' : World) (ys xs' : List Value) (sv' : Value) (hb : Below w1.heap.size w1 w') (hs : StrsAt w' (Now w') r sv') (hys : ys = [.int .i64 yk, .int .i64 yn, .string yt, .slice ya yl yc, .slice yf ym yg]) (hxs : xs' = [.int .i64 uk, .int .i64 un, .string ut, .slice ua ul uc, .slice uf um ug]) => ih w' ys xs' sv' (fun c h => Nat.lt_of_lt_of_le (hSw.out c h) (Nat.le_trans D.out.size hb.size)) (by rw [hys]; exact hry0.out.keep (fun _ h => h) (fun c h => (hb.block c (Nat.lt_of_lt_of_le (hSw.out c h) D.out.size)).trans (D.out.block c (hSw.out c h)))) (by rw [hxs]; exact hx0.out.keep (fun _ h => h) (fun c h => (hb.block c (Nat.lt_of_lt_of_le (hSw.out c h) D.out.size)).trans (D.out.block c (hSw.out c h)))) hs)
 replace ih := hid (fun (w' : World) (sv' : Value) (a1 a2 : Unit) (hb : Below w1.heap.size w1 w') (hs : StrsAt w' (Now w') r sv') => ih.out w' _ _ sv' hb hs rfl rfl)
 have hki : (k != 5) = false := by simp [hk5.out]
 have hni : ¬ (l.length : Int) ≤ (n : Int) := by omega
 have hmi : (n : Int) < (l.length : Int) := by omega
 have hr1 : (1 : Int) ≤ (r.length : Int) + 1 := by omega
 have a0 := box_at (j := 0) r3.out rfl
 have a3 := box_at (j := 3) r3.out rfl
 go_upto_region 9 with fail
 clear a0 a3 hki hni
 have hsk := hid (fun w' (h : Below w1.heap.size w1 w') => hss0.out.later (D.out.step h))
 have hSS : Hid (∀ x : World, (∀ c, c < w1.heap.size → x.heap[c]? = w1.heap[c]?) → SetS w.heap.size (.slice (some ⟨b, off, none⟩) l.length lc) b (off + n * 5) (.int .i64 yk) (.int .i64 yn) (.string yt) (.slice ya yl yc) (.slice yf ym yg) (w.heap.size + 1) (.int .i64 uk) (.int .i64 un) (.string ut) (.slice ua ul uc) (.slice uf um ug) x) := fun x h => by
  have h3 := (h _ (lt_of_block r3.out)).trans r3.out
  have h5 := (h _ (lt_of_block r5.out)).trans r5.out
  have hb := (h b (Nat.lt_of_lt_of_le (hSw.out b hSb.out) D.out.size)).trans (D.out.block b (hSw.out b hSb.out))
  exact ⟨box_at h3 rfl, ⟨(World.cell?_of_block (w := w) (a := ⟨b, off + n * 5, none⟩) hb).trans (by simpa using hc.out 0 _ rfl), (World.cell?_of_block (w := w) (a := ⟨b, off + n * 5 + 1, none⟩) hb).trans (hc.out 1 _ rfl), (World.cell?_of_block (w := w) (a := ⟨b, off + n * 5 + 2, none⟩) hb).trans (hc.out 2 _ rfl), (World.cell?_of_block (w := w) (a := ⟨b, off + n * 5 + 3, none⟩) hb).trans (hc.out 3 _ rfl), (World.cell?_of_block (w := w) (a := ⟨b, off + n * 5 + 4, none⟩) hb).trans (hc.out 4 _ rfl)⟩, box_at h5 rfl, box_at h5 rfl, box_at h5 rfl, box_at h5 rfl, box_at h5 rfl⟩
 go_cut [1, 9, 10] from 15 to 46 (fun s1 s9 s10 wx => ∃ (gx : Nat) (v0 v1 v2 v3 v4 : Value), s9 = .pointer (some ⟨gx, 0, none⟩) ∧ s10 = .int .i64 qe ∧ wx.heap[gx]? = some (.cells #[v0, v1, v2, v3, v4] 25 (0, 0)) ∧ w1.heap.size ≤ gx ∧ Rd wx (fun c => S c ∨ From w1.heap.size wx c) qv [v0, v1, v2, v3, v4] ∧ Below w1.heap.size w1 wx)
 case first =>
  by_cases hc1 : sc = 1
  ·subst hc1
   obtain rfl : r = [] := List.length_eq_zero_iff.1 (by omega)
   simp only [List.length_nil] at hr1
   refine wp_region_T (SetS w.heap.size (.slice (some ⟨b, off, none⟩) l.length lc) b (off + n * 5) (.int .i64 yk) (.int .i64 yn) (.string yt) (.slice ya yl yc) (.slice yf ym yg) (w.heap.size + 1) (.int .i64 uk) (.int .i64 un) (.string ut) (.slice ua ul uc) (.slice uf um ug)) 15 (by kernel_rfl) ?_
   have hT0 := hSS.out w1.drew (fun _ _ => rfl)
   ((refine wpAnyT_take (i := 0) (v := ?_) rfl (by kernel_rfl) (by kernel_rfl) (by kernel_rfl) (by kernel_rfl) (by exact fun _ _ _ h => h) (Or.inl ⟨by kernel_rfl, ?_⟩) hT0 ?_; rotate_left 1; focus (intro w hSw; unfold SetS at hSw; (try dsimp only at hSw); go_simp; try with_reducible rfl); (try simp only [List.getElem_toArray, List.getElem_cons_zero, List.getElem_cons_succ, Act.put, List.setIfInBounds_toArray, List.set_cons_zero, List.set_cons_succ])); (refine wpAnyT_take (i := 1) (v := ?_) rfl (by kernel_rfl) (by kernel_rfl) (by kernel_rfl) (by kernel_rfl) (by exact fun _ _ _ h => h) (Or.inl ⟨by kernel_rfl, ?_⟩) hT0 ?_; rotate_left 1; focus (intro w hSw; unfold SetS at hSw; (try dsimp only at hSw); go_simp; try with_reducible rfl); (try simp only [List.getElem_toArray, List.getElem_cons_zero, List.getElem_cons_succ, Act.put, List.setIfInBounds_toArray, List.set_cons_zero, List.set_cons_succ])); (refine wpAnyT_take (i := 2) (v := ?_) rfl (by kernel_rfl) (by kernel_rfl) (by kernel_rfl) (by kernel_rfl) (by exact fun _ _ _ h => h) (Or.inl ⟨by kernel_rfl, ?_⟩) hT0 ?_; rotate_left 1; focus (intro w hSw; unfold SetS at hSw; (try dsimp only at hSw); go_simp; try with_reducible rfl); (try simp only [List.getElem_toArray, List.getElem_cons_zero, List.getElem_cons_succ, Act.put, List.setIfInBounds_toArray, List.set_cons_zero, List.set_cons_succ])); (refine wpAnyT_take (i := 3) (v := ?_) rfl (by kernel_rfl) (by kernel_rfl) (by kernel_rfl) (by kernel_rfl) (by exact fun _ _ _ h => h) (Or.inl ⟨by kernel_rfl, ?_⟩) hT0 ?_; rotate_left 1; focus (intro w hSw; unfold SetS at hSw; (try dsimp only at hSw); go_simp; try with_reducible rfl); (try simp only [List.getElem_toArray, List.getElem_cons_zero, List.getElem_cons_succ, Act.put, List.setIfInBounds_toArray, List.set_cons_zero, List.set_cons_succ])); (refine wpAnyT_take (i := 4) (v := ?_) rfl (by kernel_rfl) (by kernel_rfl) (by kernel_rfl) (by kernel_rfl) (by exact fun _ _ _ h => h) (Or.inl ⟨by kernel_rfl, ?_⟩) hT0 ?_; rotate_left 1; focus (intro w hSw; unfold SetS at hSw; (try dsimp only at hSw); go_simp; try with_reducible rfl); (try simp only [List.getElem_toArray, List.getElem_cons_zero, List.getElem_cons_succ, Act.put, List.setIfInBounds_toArray, List.set_cons_zero, List.set_cons_succ])); (refine wpAnyT_take (i := 5) (v := ?_) rfl (by kernel_rfl) (by kernel_rfl) (by kernel_rfl) (by kernel_rfl) (by exact fun _ _ _ h => h) (Or.inl ⟨by kernel_rfl, ?_⟩) hT0 ?_; rotate_left 1; focus (intro w hSw; unfold SetS at hSw; (try dsimp only at hSw); go_simp; try with_reducible rfl); (try simp only [List.getElem_toArray, List.getElem_cons_zero, List.getElem_cons_succ, Act.put, List.setIfInBounds_toArray, List.set_cons_zero, List.set_cons_succ])); (refine wpAnyT_take (i := 6) (v := ?_) rfl (by kernel_rfl) (by kernel_rfl) (by kernel_rfl) (by kernel_rfl) (by exact fun _ _ _ h => h) (Or.inl ⟨by kernel_rfl, ?_⟩) hT0 ?_; rotate_left 1; focus (intro w hSw; unfold SetS at hSw; (try dsimp only at hSw); go_simp; try with_reducible rfl); (try simp only [List.getElem_toArray, List.getElem_cons_zero, List.getElem_cons_succ, Act.put, List.setIfInBounds_toArray, List.set_cons_zero, List.set_cons_succ])); (refine wpAnyT_take (i := 7) (v := ?_) rfl (by kernel_rfl) (by kernel_rfl) (by kernel_rfl) (by kernel_rfl) (by exact fun _ _ _ h => h) (Or.inl ⟨by kernel_rfl, ?_⟩) hT0 ?_; rotate_left 1; focus (intro w hSw; unfold SetS at hSw; (try dsimp only at hSw); go_simp; try with_reducible rfl); (try simp only [List.getElem_toArray, List.getElem_cons_zero, List.getElem_cons_succ, Act.put, List.setIfInBounds_toArray, List.set_cons_zero, List.set_cons_succ])))
   refine wpAnyT_two (i := 8) (j := 12) (by kernel_rfl) rfl rfl (fun K hK => ?_) (fun K hK => ?_)
   ·go_simp
    refine (ih.out w1.drew _ () () (Below.refl w1.heap.size w1).drew (StrsAt.none_left (by omega))).mono ?_
    rintro e w4 ⟨cs4, rfl, h4, hr4⟩
    have E := hid ((Below.refl w1.heap.size w1).drew.step h4)
    have hT1 := hSS.out w4 E.out.block
    obtain ⟨zk, zn, zt, qa, ql, qc, qf, qm, qg, rfl⟩ := hr4.five
    replace hr4 := hid hr4
    clear h4 hT0
    (refine hK.out _ _ (fun _ => hT1) (fun _ => ?_); clear hK K; (try simp only [Act.put, List.setIfInBounds_toArray, List.set_cons_zero, List.set_cons_succ]))
    ((refine wpAnyT_take (i := 9) (v := ?_) rfl (by kernel_rfl) (by kernel_rfl) (by kernel_rfl) (by kernel_rfl) (by exact fun _ _ _ h => h) (Or.inl ⟨by kernel_rfl, ?_⟩) hT1 ?_; rotate_left 1; focus (intro w hSw; unfold SetS at hSw; (try dsimp only at hSw); go_simp; try with_reducible rfl); (try simp only [List.getElem_toArray, List.getElem_cons_zero, List.getElem_cons_succ, Act.put, List.setIfInBounds_toArray, List.set_cons_zero, List.set_cons_succ])); (refine wpAnyT_take (i := 10) (v := ?_) rfl (by kernel_rfl) (by kernel_rfl) (by kernel_rfl) (by kernel_rfl) (by exact fun _ _ _ h => h) (Or.inl ⟨by kernel_rfl, ?_⟩) hT1 ?_; rotate_left 1; focus (intro w hSw; unfold SetS at hSw; (try dsimp only at hSw); go_simp; try with_reducible rfl); (try simp only [List.getElem_toArray, List.getElem_cons_zero, List.getElem_cons_succ, Act.put, List.setIfInBounds_toArray, List.set_cons_zero, List.set_cons_succ])); (refine wpAnyT_take (i := 11) (v := ?_) rfl (by kernel_rfl) (by kernel_rfl) (by kernel_rfl) (by kernel_rfl) (by exact fun _ _ _ h => h) (Or.inl ⟨by kernel_rfl, ?_⟩) hT1 ?_; rotate_left 1; focus (intro w hSw; unfold SetS at hSw; (try dsimp only at hSw); go_simp; try with_reducible rfl); (try simp only [List.getElem_toArray, List.getElem_cons_zero, List.getElem_cons_succ, Act.put, List.setIfInBounds_toArray, List.set_cons_zero, List.set_cons_succ])))
    refine wpAnyT_one (i := 12) (by kernel_rfl) rfl (fun K hK => ?_)
    go_simp
    have E2 := hid (E.out.step (below_new w4 (.cells #[.int .i64 0, .int .i64 0, .string ⟨#[]⟩, .slice none 0 0, .slice none 0 0] 25)))
    have hT2 := hSS.out _ E2.out.block
    (refine hK.out _ _ (fun _ => hT2) (fun _ => ?_); clear hK K; (try simp only [Act.put, List.setIfInBounds_toArray, List.set_cons_zero, List.set_cons_succ]))
    refine wpAnyT_one (i := 13) (by kernel_rfl) rfl (fun K hK => ?_)
    go_simp
    have E3 := hid (E.out.step (below_new w4 (.cells #[.int .i64 zk, .int .i64 zn, .string zt, .slice qa ql qc, .slice qf qm qg] 25)))
    have hT3 := hSS.out _ E3.out.block
    (refine hK.out _ _ (fun _ => hT3) (fun _ => ?_); clear hK K; (try simp only [Act.put, List.setIfInBounds_toArray, List.set_cons_zero, List.set_cons_succ]))
    refine wpAnyT_one (i := 14) (by kernel_rfl) rfl (fun K hK => ?_)
    go_simp
    (refine hK.out _ _ (fun _ => hT3) (fun _ => ?_); clear hK K; (try simp only [Act.put, List.setIfInBounds_toArray, List.set_cons_zero, List.set_cons_succ]))
    refine wpAnyT_done (by kernel_rfl) ?_ _
    go_wp2_with fail
    go_meet
    exact ⟨_, _, _, _, _, _, rfl, rfl, heap_alloc_new w4 _, E.out.size, hr4.out.keep (fun c h => h.imp id (fun h => ⟨h.1, Nat.lt_of_lt_of_le h.2 (below_new w4 _).size⟩)) (fun b' hb => (below_new w4 _).block b' (hb.elim (fun h => Nat.lt_of_lt_of_le (hSw.out b' h) (Nat.le_trans D.out.size E.out.size)) (fun h => h.2))), E3.out⟩
   ·go_simp
    obtain ⟨wg, hwg⟩ : ∃ wg, wg = w1.alloc (.cells #[.int .i64 0, .int .i64 0, .string ⟨#[]⟩, .slice none 0 0, .slice none 0 0] 25) := ⟨_, rfl⟩
    have E1 : Hid (Below w1.heap.size w1 wg) := by show Below _ _ _; rw [hwg]; exact below_new _ _
    have gz : Hid (wg.heap[w1.heap.size]? = some (.cells #[.int .i64 0, .int .i64 0, .string ⟨#[]⟩, .slice none 0 0, .slice none 0 0] 25 (0, 0))) := by show _ = _; rw [hwg]; exact heap_alloc_new _ _
    have gs : Hid (wg.heap.size = w1.heap.size + 1) := by show _ = _; rw [hwg]; simp
    rw [← hwg]
    clear hwg
    have hT1 := hSS.out wg.drew E1.out.block
    clear hT0
    (refine hK.out _ _ (fun _ => hT1) (fun _ => ?_); clear hK K; (try simp only [Act.put, List.setIfInBounds_toArray, List.set_cons_zero, List.set_cons_succ]))
    refine wpAnyT_one (i := 8) (by kernel_rfl) rfl (fun K hK => ?_)
    go_simp
    refine (ih.out wg.drew _ () () (E1.out.step (Below.refl wg.heap.size wg).drew) (StrsAt.none_left (by omega))).mono ?_
    rintro e w4 ⟨cs4, rfl, h4, hr4⟩
    have E := hid (E1.out.step ((Below.refl wg.heap.size wg).drew.step h4))
    have g4 := hid (((Below.refl wg.heap.size wg).drew.step h4).block _ (lt_of_block gz.out) |>.trans gz.out)
    have hT2 := hSS.out _ E.out.block
    obtain ⟨zk, zn, zt, qa, ql, qc, qf, qm, qg, rfl⟩ := hr4.five
    replace hr4 := hid hr4
    clear h4 hT1
    (refine hK.out _ _ (fun _ => hT2) (fun _ => ?_); clear hK K; (try simp only [Act.put, List.setIfInBounds_toArray, List.set_cons_zero, List.set_cons_succ]))
    ((refine wpAnyT_take (i := 9) (v := ?_) rfl (by kernel_rfl) (by kernel_rfl) (by kernel_rfl) (by kernel_rfl) (by exact fun _ _ _ h => h) (Or.inl ⟨by kernel_rfl, ?_⟩) hT2 ?_; rotate_left 1; focus (intro w hSw; unfold SetS at hSw; (try dsimp only at hSw); go_simp; try with_reducible rfl); (try simp only [List.getElem_toArray, List.getElem_cons_zero, List.getElem_cons_succ, Act.put, List.setIfInBounds_toArray, List.set_cons_zero, List.set_cons_succ])); (refine wpAnyT_take (i := 10) (v := ?_) rfl (by kernel_rfl) (by kernel_rfl) (by kernel_rfl) (by kernel_rfl) (by exact fun _ _ _ h => h) (Or.inl ⟨by kernel_rfl, ?_⟩) hT2 ?_; rotate_left 1; focus (intro w hSw; unfold SetS at hSw; (try dsimp only at hSw); go_simp; try with_reducible rfl); (try simp only [List.getElem_toArray, List.getElem_cons_zero, List.getElem_cons_succ, Act.put, List.setIfInBounds_toArray, List.set_cons_zero, List.set_cons_succ])); (refine wpAnyT_take (i := 11) (v := ?_) rfl (by kernel_rfl) (by kernel_rfl) (by kernel_rfl) (by kernel_rfl) (by exact fun _ _ _ h => h) (Or.inl ⟨by kernel_rfl, ?_⟩) hT2 ?_; rotate_left 1; focus (intro w hSw; unfold SetS at hSw; (try dsimp only at hSw); go_simp; try with_reducible rfl); (try simp only [List.getElem_toArray, List.getElem_cons_zero, List.getElem_cons_succ, Act.put, List.setIfInBounds_toArray, List.set_cons_zero, List.set_cons_succ])))
    have c0 := box_at (j := 0) g4.out rfl
    have c1 := box_at (j := 1) g4.out rfl
    have c2 := box_at (j := 2) g4.out rfl
    have c3 := box_at (j := 3) g4.out rfl
    have c4 := box_at (j := 4) g4.out rfl
    have f0 := box_free g4.out
    refine wpAnyT_one (i := 13) (by kernel_rfl) rfl (fun K hK => ?_)
    go_simp
    clear c0 c1 c2 c3 c4
    clear f0
    have hbz := hid (set5_below E.out (Nat.le_refl _) (.int .i64 zk) (.int .i64 zn) (.string zt) (.slice qa ql qc) (.slice qf qm qg))
    have rz := hid (set5_box (u0 := .int .i64 zk) (u1 := .int .i64 zn) (u2 := .string zt) (u3 := .slice qa ql qc) (u4 := .slice qf qm qg) g4.out)
    have hkp := hid (fun bq (hb : bq ≠ w1.heap.size) => set5_other w4 (w1.heap.size) (.int .i64 zk) (.int .i64 zn) (.string zt) (.slice qa ql qc) (.slice qf qm qg) (b := bq) hb)
    have hsz9 := hid (set5_size w4 (w1.heap.size) (.int .i64 zk) (.int .i64 zn) (.string zt) (.slice qa ql qc) (.slice qf qm qg))
    unfold set5 at hbz rz hkp hsz9
    generalize ((((w4.setCell ⟨w1.heap.size, 0, none⟩ (.int .i64 zk)).setCell ⟨w1.heap.size, 1, none⟩ (.int .i64 zn)).setCell ⟨w1.heap.size, 2, none⟩ (.string zt)).setCell ⟨w1.heap.size, 3, none⟩ (.slice qa ql qc)).setCell ⟨w1.heap.size, 4, none⟩ (.slice qf qm qg) = w9 at *
    have hT3 := hSS.out _ hbz.out.block
    clear hT2
    (refine hK.out _ _ (fun _ => hT3) (fun _ => ?_); clear hK K; (try simp only [Act.put, List.setIfInBounds_toArray, List.set_cons_zero, List.set_cons_succ]))
    refine wpAnyT_one (i := 14) (by kernel_rfl) rfl (fun K hK => ?_)
    go_simp
    (refine hK.out _ _ (fun _ => hT3) (fun _ => ?_); clear hK K; (try simp only [Act.put, List.setIfInBounds_toArray, List.set_cons_zero, List.set_cons_succ]))
    refine wpAnyT_done (by kernel_rfl) ?_ _
    go_wp2_with fail
    go_meet
    have hgs2 : wg.drew.heap.size = w1.heap.size + 1 := gs.out
    exact ⟨_, _, _, _, _, _, rfl, rfl, rz.out, Nat.le_refl _, hr4.out.keep (fun c h => h.imp id (fun h => ⟨by have := h.1; omega, by rw [hsz9.out]; exact h.2⟩)) (fun b' hb => hkp.out b' (hb.elim (fun h => by have := hSw.out b' h; have := D.out.size; omega) (fun h => by have := h.1; omega))), hbz.out⟩
  ·skip
   refine wp_region_T (SetS w.heap.size (.slice (some ⟨b, off, none⟩) l.length lc) b (off + n * 5) (.int .i64 yk) (.int .i64 yn) (.string yt) (.slice ya yl yc) (.slice yf ym yg) (w.heap.size + 1) (.int .i64 uk) (.int .i64 un) (.string ut) (.slice ua ul uc) (.slice uf um ug)) 15 (by kernel_rfl) ?_
   have hT0 := hSS.out w1.drew (fun _ _ => rfl)
   ((refine wpAnyT_take (i := 0) (v := ?_) rfl (by kernel_rfl) (by kernel_rfl) (by kernel_rfl) (by kernel_rfl) (by exact fun _ _ _ h => h) (Or.inl ⟨by kernel_rfl, ?_⟩) hT0 ?_; rotate_left 1; focus (intro w hSw; unfold SetS at hSw; (try dsimp only at hSw); go_simp; try with_reducible rfl); (try simp only [List.getElem_toArray, List.getElem_cons_zero, List.getElem_cons_succ, Act.put, List.setIfInBounds_toArray, List.set_cons_zero, List.set_cons_succ])); (refine wpAnyT_take (i := 1) (v := ?_) rfl (by kernel_rfl) (by kernel_rfl) (by kernel_rfl) (by kernel_rfl) (by exact fun _ _ _ h => h) (Or.inl ⟨by kernel_rfl, ?_⟩) hT0 ?_; rotate_left 1; focus (intro w hSw; unfold SetS at hSw; (try dsimp only at hSw); go_simp; try with_reducible rfl); (try simp only [List.getElem_toArray, List.getElem_cons_zero, List.getElem_cons_succ, Act.put, List.setIfInBounds_toArray, List.set_cons_zero, List.set_cons_succ])); (refine wpAnyT_take (i := 2) (v := ?_) rfl (by kernel_rfl) (by kernel_rfl) (by kernel_rfl) (by kernel_rfl) (by exact fun _ _ _ h => h) (Or.inl ⟨by kernel_rfl, ?_⟩) hT0 ?_; rotate_left 1; focus (intro w hSw; unfold SetS at hSw; (try dsimp only at hSw); go_simp; try with_reducible rfl); (try simp only [List.getElem_toArray, List.getElem_cons_zero, List.getElem_cons_succ, Act.put, List.setIfInBounds_toArray, List.set_cons_zero, List.set_cons_succ])); (refine wpAnyT_take (i := 3) (v := ?_) rfl (by kernel_rfl) (by kernel_rfl) (by kernel_rfl) (by kernel_rfl) (by exact fun _ _ _ h => h) (Or.inl ⟨by kernel_rfl, ?_⟩) hT0 ?_; rotate_left 1; focus (intro w hSw; unfold SetS at hSw; (try dsimp only at hSw); go_simp; try with_reducible rfl); (try simp only [List.getElem_toArray, List.getElem_cons_zero, List.getElem_cons_succ, Act.put, List.setIfInBounds_toArray, List.set_cons_zero, List.set_cons_succ])); (refine wpAnyT_take (i := 4) (v := ?_) rfl (by kernel_rfl) (by kernel_rfl) (by kernel_rfl) (by kernel_rfl) (by exact fun _ _ _ h => h) (Or.inl ⟨by kernel_rfl, ?_⟩) hT0 ?_; rotate_left 1; focus (intro w hSw; unfold SetS at hSw; (try dsimp only at hSw); go_simp; try with_reducible rfl); (try simp only [List.getElem_toArray, List.getElem_cons_zero, List.getElem_cons_succ, Act.put, List.setIfInBounds_toArray, List.set_cons_zero, List.set_cons_succ])); (refine wpAnyT_take (i := 5) (v := ?_) rfl (by kernel_rfl) (by kernel_rfl) (by kernel_rfl) (by kernel_rfl) (by exact fun _ _ _ h => h) (Or.inl ⟨by kernel_rfl, ?_⟩) hT0 ?_; rotate_left 1; focus (intro w hSw; unfold SetS at hSw; (try dsimp only at hSw); go_simp; try with_reducible rfl); (try simp only [List.getElem_toArray, List.getElem_cons_zero, List.getElem_cons_succ, Act.put, List.setIfInBounds_toArray, List.set_cons_zero, List.set_cons_succ])); (refine wpAnyT_take (i := 6) (v := ?_) rfl (by kernel_rfl) (by kernel_rfl) (by kernel_rfl) (by kernel_rfl) (by exact fun _ _ _ h => h) (Or.inl ⟨by kernel_rfl, ?_⟩) hT0 ?_; rotate_left 1; focus (intro w hSw; unfold SetS at hSw; (try dsimp only at hSw); go_simp; try with_reducible rfl); (try simp only [List.getElem_toArray, List.getElem_cons_zero, List.getElem_cons_succ, Act.put, List.setIfInBounds_toArray, List.set_cons_zero, List.set_cons_succ])); (refine wpAnyT_take (i := 7) (v := ?_) rfl (by kernel_rfl) (by kernel_rfl) (by kernel_rfl) (by kernel_rfl) (by exact fun _ _ _ h => h) (Or.inl ⟨by kernel_rfl, ?_⟩) hT0 ?_; rotate_left 1; focus (intro w hSw; unfold SetS at hSw; (try dsimp only at hSw); go_simp; try with_reducible rfl); (try simp only [List.getElem_toArray, List.getElem_cons_zero, List.getElem_cons_succ, Act.put, List.setIfInBounds_toArray, List.set_cons_zero, List.set_cons_succ])))
   refine wpAnyT_two (i := 8) (j := 12) (by kernel_rfl) rfl rfl (fun K hK => ?_) (fun K hK => ?_)
   ·go_simp
    refine (ih.out w1.drew _ () () (Below.refl w1.heap.size w1).drew ((hsk.out _ (Below.refl w1.heap.size w1).drew).tail)).mono ?_
    rintro e w4 ⟨cs4, rfl, h4, hr4⟩
    have E := hid ((Below.refl w1.heap.size w1).drew.step h4)
    have hT1 := hSS.out w4 E.out.block
    obtain ⟨zk, zn, zt, qa, ql, qc, qf, qm, qg, rfl⟩ := hr4.five
    replace hr4 := hid hr4
    clear h4 hT0
    (refine hK.out _ _ (fun _ => hT1) (fun _ => ?_); clear hK K; (try simp only [Act.put, List.setIfInBounds_toArray, List.set_cons_zero, List.set_cons_succ]))
    ((refine wpAnyT_take (i := 9) (v := ?_) rfl (by kernel_rfl) (by kernel_rfl) (by kernel_rfl) (by kernel_rfl) (by exact fun _ _ _ h => h) (Or.inl ⟨by kernel_rfl, ?_⟩) hT1 ?_; rotate_left 1; focus (intro w hSw; unfold SetS at hSw; (try dsimp only at hSw); go_simp; try with_reducible rfl); (try simp only [List.getElem_toArray, List.getElem_cons_zero, List.getElem_cons_succ, Act.put, List.setIfInBounds_toArray, List.set_cons_zero, List.set_cons_succ])); (refine wpAnyT_take (i := 10) (v := ?_) rfl (by kernel_rfl) (by kernel_rfl) (by kernel_rfl) (by kernel_rfl) (by exact fun _ _ _ h => h) (Or.inl ⟨by kernel_rfl, ?_⟩) hT1 ?_; rotate_left 1; focus (intro w hSw; unfold SetS at hSw; (try dsimp only at hSw); go_simp; try with_reducible rfl); (try simp only [List.getElem_toArray, List.getElem_cons_zero, List.getElem_cons_succ, Act.put, List.setIfInBounds_toArray, List.set_cons_zero, List.set_cons_succ])); (refine wpAnyT_take (i := 11) (v := ?_) rfl (by kernel_rfl) (by kernel_rfl) (by kernel_rfl) (by kernel_rfl) (by exact fun _ _ _ h => h) (Or.inl ⟨by kernel_rfl, ?_⟩) hT1 ?_; rotate_left 1; focus (intro w hSw; unfold SetS at hSw; (try dsimp only at hSw); go_simp; try with_reducible rfl); (try simp only [List.getElem_toArray, List.getElem_cons_zero, List.getElem_cons_succ, Act.put, List.setIfInBounds_toArray, List.set_cons_zero, List.set_cons_succ])))
    refine wpAnyT_one (i := 12) (by kernel_rfl) rfl (fun K hK => ?_)
    go_simp
    have E2 := hid (E.out.step (below_new w4 (.cells #[.int .i64 0, .int .i64 0, .string ⟨#[]⟩, .slice none 0 0, .slice none 0 0] 25)))
    have hT2 := hSS.out _ E2.out.block
    (refine hK.out _ _ (fun _ => hT2) (fun _ => ?_); clear hK K; (try simp only [Act.put, List.setIfInBounds_toArray, List.set_cons_zero, List.set_cons_succ]))
    refine wpAnyT_one (i := 13) (by kernel_rfl) rfl (fun K hK => ?_)
    go_simp
    have E3 := hid (E.out.step (below_new w4 (.cells #[.int .i64 zk, .int .i64 zn, .string zt, .slice qa ql qc, .slice qf qm qg] 25)))
    have hT3 := hSS.out _ E3.out.block
    (refine hK.out _ _ (fun _ => hT3) (fun _ => ?_); clear hK K; (try simp only [Act.put, List.setIfInBounds_toArray, List.set_cons_zero, List.set_cons_succ]))
    refine wpAnyT_one (i := 14) (by kernel_rfl) rfl (fun K hK => ?_)
    go_simp
    (refine hK.out _ _ (fun _ => hT3) (fun _ => ?_); clear hK K; (try simp only [Act.put, List.setIfInBounds_toArray, List.set_cons_zero, List.set_cons_succ]))
    refine wpAnyT_done (by kernel_rfl) ?_ _
    go_wp2_with fail
    go_meet
    exact ⟨_, _, _, _, _, _, rfl, rfl, heap_alloc_new w4 _, E.out.size, hr4.out.keep (fun c h => h.imp id (fun h => ⟨h.1, Nat.lt_of_lt_of_le h.2 (below_new w4 _).size⟩)) (fun b' hb => (below_new w4 _).block b' (hb.elim (fun h => Nat.lt_of_lt_of_le (hSw.out b' h) (Nat.le_trans D.out.size E.out.size)) (fun h => h.2))), E3.out⟩
   ·go_simp
    obtain ⟨wg, hwg⟩ : ∃ wg, wg = w1.alloc (.cells #[.int .i64 0, .int .i64 0, .string ⟨#[]⟩, .slice none 0 0, .slice none 0 0] 25) := ⟨_, rfl⟩
    have E1 : Hid (Below w1.heap.size w1 wg) := by show Below _ _ _; rw [hwg]; exact below_new _ _
    have gz : Hid (wg.heap[w1.heap.size]? = some (.cells #[.int .i64 0, .int .i64 0, .string ⟨#[]⟩, .slice none 0 0, .slice none 0 0] 25 (0, 0))) := by show _ = _; rw [hwg]; exact heap_alloc_new _ _
    have gs : Hid (wg.heap.size = w1.heap.size + 1) := by show _ = _; rw [hwg]; simp
    rw [← hwg]
    clear hwg
    have hT1 := hSS.out wg.drew E1.out.block
    clear hT0
    (refine hK.out _ _ (fun _ => hT1) (fun _ => ?_); clear hK K; (try simp only [Act.put, List.setIfInBounds_toArray, List.set_cons_zero, List.set_cons_succ]))
    refine wpAnyT_one (i := 8) (by kernel_rfl) rfl (fun K hK => ?_)
    go_simp
    refine (ih.out wg.drew _ () () (E1.out.step (Below.refl wg.heap.size wg).drew) ((hsk.out _ (E1.out.step (Below.refl wg.heap.size wg).drew)).tail)).mono ?_
    rintro e w4 ⟨cs4, rfl, h4, hr4⟩
    have E := hid (E1.out.step ((Below.refl wg.heap.size wg).drew.step h4))
    have g4 := hid (((Below.refl wg.heap.size wg).drew.step h4).block _ (lt_of_block gz.out) |>.trans gz.out)
    have hT2 := hSS.out _ E.out.block
    obtain ⟨zk, zn, zt, qa, ql, qc, qf, qm, qg, rfl⟩ := hr4.five
    replace hr4 := hid hr4
    clear h4 hT1
    (refine hK.out _ _ (fun _ => hT2) (fun _ => ?_); clear hK K; (try simp only [Act.put, List.setIfInBounds_toArray, List.set_cons_zero, List.set_cons_succ]))
    ((refine wpAnyT_take (i := 9) (v := ?_) rfl (by kernel_rfl) (by kernel_rfl) (by kernel_rfl) (by kernel_rfl) (by exact fun _ _ _ h => h) (Or.inl ⟨by kernel_rfl, ?_⟩) hT2 ?_; rotate_left 1; focus (intro w hSw; unfold SetS at hSw; (try dsimp only at hSw); go_simp; try with_reducible rfl); (try simp only [List.getElem_toArray, List.getElem_cons_zero, List.getElem_cons_succ, Act.put, List.setIfInBounds_toArray, List.set_cons_zero, List.set_cons_succ])); (refine wpAnyT_take (i := 10) (v := ?_) rfl (by kernel_rfl) (by kernel_rfl) (by kernel_rfl) (by kernel_rfl) (by exact fun _ _ _ h => h) (Or.inl ⟨by kernel_rfl, ?_⟩) hT2 ?_; rotate_left 1; focus (intro w hSw; unfold SetS at hSw; (try dsimp only at hSw); go_simp; try with_reducible rfl); (try simp only [List.getElem_toArray, List.getElem_cons_zero, List.getElem_cons_succ, Act.put, List.setIfInBounds_toArray, List.set_cons_zero, List.set_cons_succ])); (refine wpAnyT_take (i := 11) (v := ?_) rfl (by kernel_rfl) (by kernel_rfl) (by kernel_rfl) (by kernel_rfl) (by exact fun _ _ _ h => h) (Or.inl ⟨by kernel_rfl, ?_⟩) hT2 ?_; rotate_left 1; focus (intro w hSw; unfold SetS at hSw; (try dsimp only at hSw); go_simp; try with_reducible rfl); (try simp only [List.getElem_toArray, List.getElem_cons_zero, List.getElem_cons_succ, Act.put, List.setIfInBounds_toArray, List.set_cons_zero, List.set_cons_succ])))
    have c0 := box_at (j := 0) g4.out rfl
    have c1 := box_at (j := 1) g4.out rfl
    have c2 := box_at (j := 2) g4.out rfl
    have c3 := box_at (j := 3) g4.out rfl
    have c4 := box_at (j := 4) g4.out rfl
    have f0 := box_free g4.out
    refine wpAnyT_one (i := 13) (by kernel_rfl) rfl (fun K hK => ?_)
    go_simp
    clear c0 c1 c2 c3 c4
    clear f0
    have hbz := hid (set5_below E.out (Nat.le_refl _) (.int .i64 zk) (.int .i64 zn) (.string zt) (.slice qa ql qc) (.slice qf qm qg))
    have rz := hid (set5_box (u0 := .int .i64 zk) (u1 := .int .i64 zn) (u2 := .string zt) (u3 := .slice qa ql qc) (u4 := .slice qf qm qg) g4.out)
    have hkp := hid (fun bq (hb : bq ≠ w1.heap.size) => set5_other w4 (w1.heap.size) (.int .i64 zk) (.int .i64 zn) (.string zt) (.slice qa ql qc) (.slice qf qm qg) (b := bq) hb)
    have hsz9 := hid (set5_size w4 (w1.heap.size) (.int .i64 zk) (.int .i64 zn) (.string zt) (.slice qa ql qc) (.slice qf qm qg))
    unfold set5 at hbz rz hkp hsz9
    generalize ((((w4.setCell ⟨w1.heap.size, 0, none⟩ (.int .i64 zk)).setCell ⟨w1.heap.size, 1, none⟩ (.int .i64 zn)).setCell ⟨w1.heap.size, 2, none⟩ (.string zt)).setCell ⟨w1.heap.size, 3, none⟩ (.slice qa ql qc)).setCell ⟨w1.heap.size, 4, none⟩ (.slice qf qm qg) = w9 at *
    have hT3 := hSS.out _ hbz.out.block
    clear hT2
    (refine hK.out _ _ (fun _ => hT3) (fun _ => ?_); clear hK K; (try simp only [Act.put, List.setIfInBounds_toArray, List.set_cons_zero, List.set_cons_succ]))
    refine wpAnyT_one (i := 14) (by kernel_rfl) rfl (fun K hK => ?_)
    go_simp
    (refine hK.out _ _ (fun _ => hT3) (fun _ => ?_); clear hK K; (try simp only [Act.put, List.setIfInBounds_toArray, List.set_cons_zero, List.set_cons_succ]))
    refine wpAnyT_done (by kernel_rfl) ?_ _
    go_wp2_with fail
    go_meet
    have hgs2 : wg.drew.heap.size = w1.heap.size + 1 := gs.out
    exact ⟨_, _, _, _, _, _, rfl, rfl, rz.out, Nat.le_refl _, hr4.out.keep (fun c h => h.imp id (fun h => ⟨by have := h.1; omega, by rw [hsz9.out]; exact h.2⟩)) (fun b' hb => hkp.out b' (hb.elim (fun h => by have := hSw.out b' h; have := D.out.size; omega) (fun h => by have := h.1; omega))), hbz.out⟩
 case rest =>
  obtain ⟨gz, y0, y1, y2, y3, y4, rfl, rfl, hgz, hge, hrq, hbc⟩ := hcut
  obtain ⟨we, hwe⟩ : ∃ x, x = wc := ⟨_, rfl⟩
  subst hwe
  clear ih hsk hSS hge hr1 hc hSb hry0 hx0 hss0 hsc0 hsb hy hmi hm hp
  replace hrq := hid hrq
  replace hgz := hid hgz
  have q3 := hid ((hbc.block _ (lt_of_block r3.out)).trans r3.out)
  have q6 := hid ((hbc.block _ (lt_of_block r6.out)).trans r6.out)
  have D3 := hid (D.out.step hbc)
  have hsB := hid hbc.size
  clear hbc r3 r5 r6
  have hml : Hid (n < VX.l.length) := by show _ < _; rw [hVX.out]; exact hnl
  clear hnl
  by_cases hq : qe = 0
  ·subst hq
   have hR2 : R = (listV (VX.l.set n qv), 0) := by rw [hR.out]; simp
   subst hR2
   clear hR hVX
   have hsD := hid D.out.size
   have hw5 := hid (fun w' (h : Below we.heap.size we w') => rput_calls (S := fun c => S c ∨ From w1.heap.size we c) VX qv n (w := w') (cs := [.int .i64 k, .int .i64 n0, .string str, .slice (some ⟨b, off, none⟩) l.length lc, .slice fa fv.length fc]) (xs := [y0, y1, y2, y3, y4]) (fun c hc => hc.elim (fun hc => Nat.lt_of_lt_of_le (hSw.out c hc) (Nat.le_trans D3.out.size h.size)) (fun hc => Nat.lt_of_lt_of_le hc.2 h.size)) (by have := hmX.out; omega) hml.out (hV0.out.keep (fun _ h => .inl h) (fun c hc => (h.block c (Nat.lt_of_lt_of_le (hSw.out c hc) D3.out.size)).trans (D3.out.block c (hSw.out c hc)))) (hrq.out.keep (fun _ h => h) (fun c hc => h.block c (hc.elim (fun hc => Nat.lt_of_lt_of_le (hSw.out c hc) D3.out.size) (fun hc => hc.2)))))
   have b0 := box_at (j := 0) q3.out rfl
   have b1 := box_at (j := 1) q3.out rfl
   have b2 := box_at (j := 2) q3.out rfl
   have b3 := box_at (j := 3) q3.out rfl
   have b4 := box_at (j := 4) q3.out rfl
   have c0 := box_at (j := 0) q6.out rfl
   have c1 := box_at (j := 1) q6.out rfl
   have c2 := box_at (j := 2) q6.out rfl
   have c3 := box_at (j := 3) q6.out rfl
   have c4 := box_at (j := 4) q6.out rfl
   have f0 := box_free q6.out
   have d0 := box_at (j := 0) hgz.out rfl
   have d1 := box_at (j := 1) hgz.out rfl
   have d2 := box_at (j := 2) hgz.out rfl
   have d3 := box_at (j := 3) hgz.out rfl
   have d4 := box_at (j := 4) hgz.out rfl
   go_wp2_with fail
   refine (hw5.out we (Below.refl we.heap.size we)).mono ?_
   rintro e w5 ⟨ys5, rfl, E5, hr5⟩
   replace E5 := hid E5
   have D5 := hid (D3.out.step E5.out)
   have p6 := hid ((E5.out.block _ (lt_of_block q6.out)).trans q6.out)
   obtain ⟨zk, zn, zt, qa, ql, qc, qf, qm, qg, rfl⟩ := hr5.five
   replace hr5 := hid hr5
   clear b0 b1 b2 b3 b4
   clear c0 c1 c2 c3 c4
   clear d0 d1 d2 d3 d4
   clear f0 hw5
   have c0 := box_at (j := 0) p6.out rfl
   have c1 := box_at (j := 1) p6.out rfl
   have c2 := box_at (j := 2) p6.out rfl
   have c3 := box_at (j := 3) p6.out rfl
   have c4 := box_at (j := 4) p6.out rfl
   have f0 := box_free p6.out
   go_wp2_with fail
   clear c0 c1 c2 c3 c4
   clear f0
   have hbz := hid (set5_below D5.out (Nat.le_add_right w.heap.size 2) (.int .i64 zk) (.int .i64 zn) (.string zt) (.slice qa ql qc) (.slice qf qm qg))
   have rz := hid (set5_box (u0 := .int .i64 zk) (u1 := .int .i64 zn) (u2 := .string zt) (u3 := .slice qa ql qc) (u4 := .slice qf qm qg) p6.out)
   have hkp := hid (fun bq (hb : bq ≠ w.heap.size + 2) => set5_other w5 (w.heap.size + 2) (.int .i64 zk) (.int .i64 zn) (.string zt) (.slice qa ql qc) (.slice qf qm qg) (b := bq) hb)
   have hsz9 := hid (set5_size w5 (w.heap.size + 2) (.int .i64 zk) (.int .i64 zn) (.string zt) (.slice qa ql qc) (.slice qf qm qg))
   unfold set5 at hbz rz hkp hsz9
   generalize ((((w5.setCell ⟨w.heap.size + 2, 0, none⟩ (.int .i64 zk)).setCell ⟨w.heap.size + 2, 1, none⟩ (.int .i64 zn)).setCell ⟨w.heap.size + 2, 2, none⟩ (.string zt)).setCell ⟨w.heap.size + 2, 3, none⟩ (.slice qa ql qc)).setCell ⟨w.heap.size + 2, 4, none⟩ (.slice qf qm qg) = w9 at *
   have z0 := box_at (j := 0) rz.out rfl
   have z1 := box_at (j := 1) rz.out rfl
   have z2 := box_at (j := 2) rz.out rfl
   have z3 := box_at (j := 3) rz.out rfl
   have z4 := box_at (j := 4) rz.out rfl
   refine ⟨rfl, _, by simp [results, Tryz.results36, go_sem, z0, z1, z2, z3, z4] <;> exact ⟨rfl, rfl⟩, [.int .i64 zk, .int .i64 zn, .string zt, .slice qa ql qc, .slice qf qm qg], rfl, hbz.out, ?_⟩
   have hs9 := hsz9.out
   have hs5 := D3.out.size
   have hs6 := E5.out.size
   exact hr5.out.keep (fun c h => h.elim (fun h => h.imp id (fun h => ⟨Nat.le_trans hsD.out h.1, by rw [hs9]; exact Nat.lt_of_lt_of_le h.2 hs6⟩)) (fun h => .inr ⟨Nat.le_trans hs5 h.1, by rw [hs9]; exact h.2⟩)) (fun c h => hkp.out c (h.elim (fun h => h.elim (fun h => by have := hSw.out c h; omega) (fun h => by have := h.1; have := hW0s.out; omega)) (fun h => by have h9 : we.heap.size ≤ c := h.1; have := hW0s.out; have := hsB.out; omega)))
  ·have hne : (qe != 0) = true := by simp [hq]
   have hR2 : R = (VX, qe) := by rw [hR.out]; simp [hq]
   subst hR2
   clear hR hrq hgz
   have c0 := box_at (j := 0) q6.out rfl
   have c1 := box_at (j := 1) q6.out rfl
   have c2 := box_at (j := 2) q6.out rfl
   have c3 := box_at (j := 3) q6.out rfl
   have c4 := box_at (j := 4) q6.out rfl
   have f0 := box_free q6.out
   have b0 := box_at (j := 0) q3.out rfl
   have b1 := box_at (j := 1) q3.out rfl
   have b2 := box_at (j := 2) q3.out rfl
   have b3 := box_at (j := 3) q3.out rfl
   have b4 := box_at (j := 4) q3.out rfl
   go_wp2_with fail
   clear c0 c1 c2 c3 c4
   clear b0 b1 b2 b3 b4
   clear f0
   have hbz := hid (set5_below D3.out (Nat.le_add_right w.heap.size 2) (.int .i64 k) (.int .i64 n0) (.string str) (.slice (some ⟨b, off, none⟩) l.length lc) (.slice fa fv.length fc))
   have rz := hid (set5_box (u0 := .int .i64 k) (u1 := .int .i64 n0) (u2 := .string str) (u3 := .slice (some ⟨b, off, none⟩) l.length lc) (u4 := .slice fa fv.length fc) q6.out)
   have hkp := hid (fun bq (hb : bq ≠ w.heap.size + 2) => set5_other we (w.heap.size + 2) (.int .i64 k) (.int .i64 n0) (.string str) (.slice (some ⟨b, off, none⟩) l.length lc) (.slice fa fv.length fc) (b := bq) hb)
   have hsz9 := hid (set5_size we (w.heap.size + 2) (.int .i64 k) (.int .i64 n0) (.string str) (.slice (some ⟨b, off, none⟩) l.length lc) (.slice fa fv.length fc))
   unfold set5 at hbz rz hkp hsz9
   generalize ((((we.setCell ⟨w.heap.size + 2, 0, none⟩ (.int .i64 k)).setCell ⟨w.heap.size + 2, 1, none⟩ (.int .i64 n0)).setCell ⟨w.heap.size + 2, 2, none⟩ (.string str)).setCell ⟨w.heap.size + 2, 3, none⟩ (.slice (some ⟨b, off, none⟩) l.length lc)).setCell ⟨w.heap.size + 2, 4, none⟩ (.slice fa fv.length fc) = w9 at *
   have z0 := box_at (j := 0) rz.out rfl
   have z1 := box_at (j := 1) rz.out rfl
   have z2 := box_at (j := 2) rz.out rfl
   have z3 := box_at (j := 3) rz.out rfl
   have z4 := box_at (j := 4) rz.out rfl
   refine ⟨rfl, _, by simp [results, Tryz.results36, go_sem, z0, z1, z2, z3, z4] <;> exact ⟨rfl, rfl⟩, [.int .i64 k, .int .i64 n0, .string str, .slice (some ⟨b, off, none⟩) l.length lc, .slice fa fv.length fc], rfl, hbz.out, ?_⟩
   exact hV0.out.keep (fun c h => .inl h) (fun c h => (hkp.out c (by have h8 := hSw.out c h; omega)).trans (D3.out.block c (hSw.out c h)))
end Go.Proofs.YthjihdpleclejaaGreatDoor
