/-
  Walk: a change below a field that is not there.
-/
import Derived.Test.YthjihdpleclejaaGreatDoorMgPth14
namespace Go.Proofs.YthjihdpleclejaaGreatDoor
open Go.RowKit Go.Proofs
set_option maxRecDepth 100000 in
set_option maxHeartbeats 16000000 in
theorem atNew_calls {S : Nat → Prop} {W : World} {kf : FuncId} {caps : Array Value} {tf : PVal → Chg} {lays : Bool} {r : List ByteArray} (hSW : ∀ c, S c → c < W.heap.size) (ih : AtC S W kf caps tf lays r)
  {V : PVal} {s : ByteArray} {sv : Value} {w : World} {cs : List Value} {b : Bool} (hW : Below W.heap.size W w) (hso : Sound V) (hm : V.mass ≤ 1000000000000) (hV : Rd w S V cs) (hssz0 : s.size ≤ 140737488355328) (hQ : place s = none) (hk : V.k = 6) (hf : ¬ V.fn[posP s V.fn]? = some s) (hss : StrsAt w (Now w) (s :: r) sv) :
  Calls Tryz.prog 44 #[.agg #[.func (.func kf) #[] caps, .bool lays], .agg cs.toArray, .bool b, sv] w (Told S (atP tf lays V (s :: r)) w) := by
 have hpl := hid (fun w => place_calls s w hssz0)
 have hssz := hid hssz0
 have hSw := hid (fun c (h : S c) => Nat.lt_of_lt_of_le (hSW c h) hW.size)
 have hfd := hid (fun (w' : World) (h : Below w.heap.size w w') => field_calls s (w := w') (V := V) (cs := cs) (S := S) (fun c hc => Nat.lt_of_lt_of_le (hSw.out c hc) h.size) (hV.keep (S' := S) (fun _ h => h) (fun c hc => h.block c (hSw.out c hc))) hso.up)
 obtain ⟨R, hR⟩ : ∃ R, R = atP tf lays V (s :: r) := ⟨_, rfl⟩
 rw [← hR]
 unfold AtC Told at ih
 unfold Told
 have ih0 := hid ih
 have hfp := hid (find_pos s V.fn V.fv hso.up)
 have hfl := hid hso.len
 have hso0 := hid hso
 have hm0 := hid hm
 have hW9 := hid hW
 replace hR := hid hR
 rw [hQ] at hpl
 replace hQ := hid hQ
 clear ih hso hm hW hssz0
 obtain ⟨k, n, str, l, fn, fv⟩ := V
 obtain rfl : k = 6 := hk
 simp only [PVal.fn] at hf
 obtain ⟨la, lc, fa, fc, rfl, _, _, _, _, _, _, _, _, hF⟩ := hV.inv
 replace hF := hid hF
 obtain ⟨sa, sc, rfl, _⟩ := id hss
 obtain ⟨sb, so, rfl, hn1, hsc1, hsc2, hsb, hsc⟩ := hss.head
 have hss0 := hid hss
 clear hV hss hn1
 replace hf := hid hf
 simp only [List.length_cons] at hss0 ⊢
 obtain ⟨W0, hW0⟩ : ∃ W0, W0 = ((w.alloc (.cells #[.func (.func kf) #[] caps, .bool lays] 50)).alloc (.cells #[.int .i64 6, .int .i64 n, .string str, .slice la l.length lc, .slice fa fv.length fc] 25)).alloc (.cells #[.int .i64 0, .int .i64 0, .string ⟨#[]⟩, .slice none 0 0, .slice none 0 0] 25) := ⟨_, rfl⟩
 have D : Hid (Below w.heap.size w W0) := by show Below _ _ _; rw [hW0]; exact ((below_new _ _).step (below_new _ _)).step (below_new _ _)
 have r0 : Hid (W0.heap[w.heap.size]? = some (.cells #[.func (.func kf) #[] caps, .bool lays] 50 (0, 0))) := by show _ = _; rw [hW0]; exact al_old (al_old (al_at rfl))
 have r1 : Hid (W0.heap[w.heap.size + 1]? = some (.cells #[.int .i64 6, .int .i64 n, .string str, .slice la l.length lc, .slice fa fv.length fc] 25 (0, 0))) := by show _ = _; rw [hW0]; exact al_old (al_at (by simp))
 have r2 : Hid (W0.heap[w.heap.size + 2]? = some (.cells #[.int .i64 0, .int .i64 0, .string ⟨#[]⟩, .slice none 0 0, .slice none 0 0] 25 (0, 0))) := by show _ = _; rw [hW0]; exact al_at (by simp)
 have hW0s : Hid (W0.heap.size = w.heap.size + 3) := by show _ = _; rw [hW0]; simp
 have s0 := (D.out.cell (p := ⟨sb, so, none⟩) hsb).trans hsc
 replace hsc := hid hsc
 replace hsb := hid hsb
 have hrn : ¬ ((r.length : Int) + 1 = 0) := by omega
 have hrp : (0 : Int) < (r.length : Int) + 1 := by omega
 go_enter Tryz.func44, Tryz.ntmps44
 go_upto_region 1 with fail
 rw [← hW0]
 clear hW0
 go_wp2_with fail
 refine (hpl.out _).mono ?_
 rintro e w1 ⟨pn, rfl, h1, hpn⟩
 have D1 := hid (D.out.step h1)
 have q0 := hid ((h1.block _ (lt_of_block r0.out)).trans r0.out)
 have q1 := hid ((h1.block _ (lt_of_block r1.out)).trans r1.out)
 have q2 := hid ((h1.block _ (lt_of_block r2.out)).trans r2.out)
 clear s0 hpl h1 hpn
 obtain ⟨i, hi⟩ : ∃ i, i = posP s fn := ⟨_, rfl⟩
 obtain ⟨hd, hdE⟩ : ∃ hd, hd = decide (fn[i]? = some s) := ⟨_, rfl⟩
 have hfd2 : Hid (∀ w', Below w.heap.size w w' → Calls Tryz.prog 56 #[.agg #[.int .i64 6, .int .i64 n, .string str, .slice la l.length lc, .slice fa fv.length fc], .string s] w' fun e w2 => e = .returned (.tuple #[.int .i64 i, .bool hd]) ∧ Below w'.heap.size w' w2) := fun w' h => by
  have := hfd.out w' h
  rw [hdE, hi]
  exact this
 replace hi := hid hi
 replace hdE := hid hdE
 clear hfd
 have b0 := box_at (j := 0) q1.out rfl
 have b1 := box_at (j := 1) q1.out rfl
 have b2 := box_at (j := 2) q1.out rfl
 have b3 := box_at (j := 3) q1.out rfl
 have b4 := box_at (j := 4) q1.out rfl
 go_upto_region 11 with fail
 clear b0 b1 b2 b3 b4
 have hS9 : Hid (∀ x : World, (∀ b, b < w1.heap.size → x.heap[b]? = w1.heap[b]?) → RhS (w.heap.size + 1) sb so (.int .i64 6) (.int .i64 n) (.string str) (.slice la l.length lc) (.slice fa fv.length fc) s x) := fun x h => by
  have hB := (h _ (lt_of_block q1.out)).trans q1.out
  have hc := (World.cell?_of_block (w := w1) (a := ⟨sb, so, none⟩) (h sb (Nat.lt_of_lt_of_le hsb.out D1.out.size))).trans ((D1.out.cell (p := ⟨sb, _, none⟩) hsb.out).trans hsc.out)
  exact ⟨box_at (j := 0) hB rfl, box_at (j := 1) hB rfl, box_at (j := 2) hB rfl, box_at (j := 3) hB rfl, box_at (j := 4) hB rfl, hc⟩
 refine wp_region_T (RhS (w.heap.size + 1) sb so (.int .i64 6) (.int .i64 n) (.string str) (.slice la l.length lc) (.slice fa fv.length fc) s) 10 (by kernel_rfl) ?_
 have hT0 := hS9.out w1.drew (fun _ _ => rfl)
 ((refine wpAnyT_take (i := 0) (v := ?_) rfl (by kernel_rfl) (by kernel_rfl) (by kernel_rfl) (by kernel_rfl) (by exact fun _ _ _ h => h) (Or.inl ⟨by kernel_rfl, ?_⟩) hT0 ?_; rotate_left 1; focus (intro w hSw; unfold RhS at hSw; (try dsimp only at hSw); go_simp; try with_reducible rfl); (try simp only [List.getElem_toArray, List.getElem_cons_zero, List.getElem_cons_succ, Act.put, List.setIfInBounds_toArray, List.set_cons_zero, List.set_cons_succ])); (refine wpAnyT_take (i := 1) (v := ?_) rfl (by kernel_rfl) (by kernel_rfl) (by kernel_rfl) (by kernel_rfl) (by exact fun _ _ _ h => h) (Or.inl ⟨by kernel_rfl, ?_⟩) hT0 ?_; rotate_left 1; focus (intro w hSw; unfold RhS at hSw; (try dsimp only at hSw); go_simp; try with_reducible rfl); (try simp only [List.getElem_toArray, List.getElem_cons_zero, List.getElem_cons_succ, Act.put, List.setIfInBounds_toArray, List.set_cons_zero, List.set_cons_succ])); (refine wpAnyT_take (i := 2) (v := ?_) rfl (by kernel_rfl) (by kernel_rfl) (by kernel_rfl) (by kernel_rfl) (by exact fun _ _ _ h => h) (Or.inl ⟨by kernel_rfl, ?_⟩) hT0 ?_; rotate_left 1; focus (intro w hSw; unfold RhS at hSw; (try dsimp only at hSw); go_simp; try with_reducible rfl); (try simp only [List.getElem_toArray, List.getElem_cons_zero, List.getElem_cons_succ, Act.put, List.setIfInBounds_toArray, List.set_cons_zero, List.set_cons_succ])); (refine wpAnyT_take (i := 3) (v := ?_) rfl (by kernel_rfl) (by kernel_rfl) (by kernel_rfl) (by kernel_rfl) (by exact fun _ _ _ h => h) (Or.inl ⟨by kernel_rfl, ?_⟩) hT0 ?_; rotate_left 1; focus (intro w hSw; unfold RhS at hSw; (try dsimp only at hSw); go_simp; try with_reducible rfl); (try simp only [List.getElem_toArray, List.getElem_cons_zero, List.getElem_cons_succ, Act.put, List.setIfInBounds_toArray, List.set_cons_zero, List.set_cons_succ])))
 refine wpAnyT_one (i := 4) (by kernel_rfl) rfl (fun K hK => ?_)
 go_simp
 refine (hfd2.out w1.drew (D1.out.trans ((Below.refl w1.heap.size w1).drew.mono D1.out.size))).mono ?_
 rintro e w2 ⟨rfl, h2⟩
 have E := hid ((Below.refl w1.heap.size w1).drew.step h2)
 have hT1 := hS9.out _ E.out.block
 clear h2 hT0
 (refine hK.out _ _ (fun _ => hT1) (fun _ => ?_); clear hK K; (try simp only [Act.put, List.setIfInBounds_toArray, List.set_cons_zero, List.set_cons_succ]))
 ((refine wpAnyT_take (i := 5) (v := ?_) rfl (by kernel_rfl) (by kernel_rfl) (by kernel_rfl) (by kernel_rfl) (by exact fun _ _ _ h => h) (Or.inl ⟨by kernel_rfl, ?_⟩) hT1 ?_; rotate_left 1; focus (intro w hSw; unfold RhS at hSw; (try dsimp only at hSw); go_simp; try with_reducible rfl); (try simp only [List.getElem_toArray, List.getElem_cons_zero, List.getElem_cons_succ, Act.put, List.setIfInBounds_toArray, List.set_cons_zero, List.set_cons_succ])); (refine wpAnyT_take (i := 6) (v := ?_) rfl (by kernel_rfl) (by kernel_rfl) (by kernel_rfl) (by kernel_rfl) (by exact fun _ _ _ h => h) (Or.inl ⟨by kernel_rfl, ?_⟩) hT1 ?_; rotate_left 1; focus (intro w hSw; unfold RhS at hSw; (try dsimp only at hSw); go_simp; try with_reducible rfl); (try simp only [List.getElem_toArray, List.getElem_cons_zero, List.getElem_cons_succ, Act.put, List.setIfInBounds_toArray, List.set_cons_zero, List.set_cons_succ])); (refine wpAnyT_take (i := 7) (v := ?_) rfl (by kernel_rfl) (by kernel_rfl) (by kernel_rfl) (by kernel_rfl) (by exact fun _ _ _ h => h) (Or.inl ⟨by kernel_rfl, ?_⟩) hT1 ?_; rotate_left 1; focus (intro w hSw; unfold RhS at hSw; (try dsimp only at hSw); go_simp; try with_reducible rfl); (try simp only [List.getElem_toArray, List.getElem_cons_zero, List.getElem_cons_succ, Act.put, List.setIfInBounds_toArray, List.set_cons_zero, List.set_cons_succ])))
 refine wpAnyT_one (i := 8) (by kernel_rfl) rfl (fun K hK => ?_)
 go_simp
 (refine hK.out _ _ (fun _ => hT1) (fun _ => ?_); clear hK K; (try simp only [Act.put, List.setIfInBounds_toArray, List.set_cons_zero, List.set_cons_succ]))
 refine wpAnyT_one (i := 9) (by kernel_rfl) rfl (fun K hK => ?_)
 go_simp
 (refine hK.out _ _ (fun _ => hT1) (fun _ => ?_); clear hK K; (try simp only [Act.put, List.setIfInBounds_toArray, List.set_cons_zero, List.set_cons_succ]))
 refine wpAnyT_done (by kernel_rfl) ?_ _
 have D2 := hid (D1.out.step E.out)
 have p0 := hid ((E.out.block _ (lt_of_block q0.out)).trans q0.out)
 have p1 := hid ((E.out.block _ (lt_of_block q1.out)).trans q1.out)
 have p2 := hid ((E.out.block _ (lt_of_block q2.out)).trans q2.out)
 clear hS9 hT1 hfd2 E q0 q1 q2 D1 hrp hrn
 have hin : Hid (i ≤ fv.length) := by show i ≤ _; rw [hi.out, ← show fn.length = fv.length from hfl.out]; exact posP_le s fn
 have hvl : Hid (fv.length + 1 ≤ 1000000000000) := by have h1 := len_massL fv; have h3 := hm0.out; simp only [PVal.mass] at h3; show _ ≤ _; omega
 have hfp2 : Hid (findP s fn fv = if fn[i]? = some s then fv[i]? else none) := by show _ = _; rw [hi.out]; exact hfp.out
 clear hfp
 obtain ⟨css, hcl, hlie, hln, hce⟩ := rdF_lie (fun b h => hSw.out b h) hF.out
 have hc6 := hid hlie.1
 have hc1 := hid hlie.2.1
 have hcll := hid hcl
 have hcl9 := hid (fun w' (h : Below w.heap.size w w') => cloneF_calls (c := fc) (hlie.later h) hln (by rw [hcl]; have := hvl.out; omega))
 rw [hcl] at hcl9
 replace hce := hid hce
 clear hlie hln hcl hF
 obtain rfl : hd = false := by rw [hdE.out, hi.out]; exact decide_eq_false hf.out
 have hfi := hid (show ¬ fn[i]? = some s from by rw [hi.out]; exact hf.out)
 have hfn : findP s fn fv = none := by rw [hfp2.out, if_neg hfi.out]
 cases lays with
 | false =>
  obtain rfl : R = ⟨zeroP, false, 8⟩ := by rw [hR.out]; exact atP_farF (v := .mk 6 n str l fn fv) hQ.out rfl hfn rfl
  clear hR hfn hfp2 ih0 hcl9
  have d1 := box_at (j := 1) p0.out rfl
  have c0 := box_at (j := 0) p2.out rfl
  have c1 := box_at (j := 1) p2.out rfl
  have c2 := box_at (j := 2) p2.out rfl
  have c3 := box_at (j := 3) p2.out rfl
  have c4 := box_at (j := 4) p2.out rfl
  have f0 := box_free p2.out
  go_wp2_with fail
  clear d1
  clear c0 c1 c2 c3 c4
  clear f0
  have hbz := hid (set5_below D2.out (Nat.le_add_right w.heap.size 2) (.int .i64 0) (.int .i64 0) (.string ⟨#[]⟩) (.slice none 0 0) (.slice none 0 0))
  have rz := hid (set5_box (u0 := .int .i64 0) (u1 := .int .i64 0) (u2 := .string ⟨#[]⟩) (u3 := .slice none 0 0) (u4 := .slice none 0 0) p2.out)
  have hkp := hid (fun b (hb : b ≠ w.heap.size + 2) => set5_other w2 (w.heap.size + 2) (.int .i64 0) (.int .i64 0) (.string ⟨#[]⟩) (.slice none 0 0) (.slice none 0 0) (b := b) hb)
  have hsz9 := hid (set5_size w2 (w.heap.size + 2) (.int .i64 0) (.int .i64 0) (.string ⟨#[]⟩) (.slice none 0 0) (.slice none 0 0))
  unfold set5 at hbz rz hkp hsz9
  generalize ((((w2.setCell ⟨w.heap.size + 2, 0, none⟩ (.int .i64 0)).setCell ⟨w.heap.size + 2, 1, none⟩ (.int .i64 0)).setCell ⟨w.heap.size + 2, 2, none⟩ (.string ⟨#[]⟩)).setCell ⟨w.heap.size + 2, 3, none⟩ (.slice none 0 0)).setCell ⟨w.heap.size + 2, 4, none⟩ (.slice none 0 0) = w9 at *
  have z0 := box_at (j := 0) rz.out rfl
  have z1 := box_at (j := 1) rz.out rfl
  have z2 := box_at (j := 2) rz.out rfl
  have z3 := box_at (j := 3) rz.out rfl
  have z4 := box_at (j := 4) rz.out rfl
  refine ⟨rfl, _, by simp [results, Tryz.results44, go_sem, z0, z1, z2, z3, z4] <;> exact ⟨rfl, rfl⟩, [.int .i64 0, .int .i64 0, .string ⟨#[]⟩, .slice none 0 0, .slice none 0 0], rfl, hbz.out, ?_⟩
  exact rd_zeroP
 | true =>
  obtain ⟨q, hq⟩ : ∃ q, q = atP tf true docE r := ⟨_, rfl⟩
  have hR2 : R = ⟨docL (if q.gone = true then (insA fn i s).eraseIdx i else insA fn i s) (if q.gone = true then (insA fv i docE).eraseIdx i else (insA fv i docE).set i q.v), false, q.e⟩ := by
   have h2 := atF_new (v := .mk 6 n str l fn fv) (x := docE) (s := s) (q := q) hf.out hfl.out
   rw [hR.out, atP_newF (v := .mk 6 n str l fn fv) hQ.out rfl hfn rfl, ← hq, h2, hi.out]
   rfl
  have hay := hid (fun w cs b sv h1 h2 h3 => ih0.out docE w cs b sv h1 sound_docE (by rw [mass_docE]; omega) h2 h3)
  rw [← hq] at hay
  clear hR hq hfp2 ih0 hfn
  obtain ⟨rv, rg, re⟩ := R
  obtain ⟨qv, qg, qe⟩ := q
  injection hR2 with hrv hrg hre
  subst hrg
  have hre' : qe = re := hre.symm
  subst hre'
  replace hrv := hid hrv
  clear hre
  have b4 := box_at (j := 4) (al_old (o := (.cells #[.int .i64 6, .int .i64 0, .string ⟨#[]⟩, .slice none 0 0, .slice none 0 0] 25)) p1.out) rfl
  have d1 := box_at (j := 1) p0.out rfl
  go_wp2_with fail
  clear b4 d1
  have D3 := hid (D2.out.step (below_new w2 (.cells #[.int .i64 6, .int .i64 0, .string ⟨#[]⟩, .slice none 0 0, .slice none 0 0] 25)))
  refine (hcl9.out _ D3.out).mono ?_
  rintro e w4 ⟨v4, rfl, h4, hown⟩
  have D4 := hid (D3.out.step h4)
  have m0 := hid ((h4.block _ (by have := lt_of_block p0.out; simp; omega)).trans (al_old p0.out))
  have m2 := hid ((h4.block _ (by have := lt_of_block p2.out; simp; omega)).trans (al_old p2.out))
  have m5 := hid ((h4.block w2.heap.size (by simp)).trans (heap_alloc_new w2 _))
  obtain ⟨A, hA⟩ : ∃ A, A = (w2.alloc (.cells #[.int .i64 6, .int .i64 0, .string ⟨#[]⟩, .slice none 0 0, .slice none 0 0] 25)).heap.size := ⟨_, rfl⟩
  have hA4 : A ≤ w4.heap.size := by rw [hA]; exact h4.size
  rw [← hA] at hown
  replace hA := hid (show A = w2.heap.size + 1 from by rw [hA]; simp)
  have hvb : ∀ k, v4.ownBlock = some k → A ≤ k ∧ k < w4.heap.size := hown.lt
  have hin := ins_calls (w := w4.alloc (.cells #[.string s, .int .i64 0, .int .i64 0, .string ⟨#[]⟩, .slice none 0 0, .slice none 0 0] 54)) (base := A) (vb := w4.heap.size) (v := v4) (css := css) (x := [.string s, .int .i64 0, .int .i64 0, .string ⟨#[]⟩, .slice none 0 0, .slice none 0 0]) (i := i) (by rw [hcll.out]; exact hown.alloc _) hc6.out hc1.out (by rw [hcll.out]; have := hvl.out; omega) (Nat.le_trans hA4 (below_new w4 _).size) rfl (by simp [Value.oneCell']) (heap_alloc_new w4 _) (fun e => by have := (hvb _ e).2; omega) (by rw [hcll.out]; exact hin.out)
  unfold Insd at hin
  rw [hcll.out] at hin
  replace hin := hid hin
  replace hvb := hid hvb
  replace hA4 := hid hA4
  have s4 := (D4.out.cell (p := ⟨sb, so, none⟩) hsb.out).trans hsc.out
  clear h4 D3 hown hcl9
  go_wp2_with fail
  clear s4
  refine hin.out.mono ?_
  rintro e w5 ⟨v5, rfl, hg5, hown5⟩
  obtain ⟨g, cap, rfl⟩ := own_some hown5 (by omega)
  have hlow := hid (show w.heap.size + 2 < w2.heap.size from lt_of_block p2.out)
  have hwn := hid (below_new w4 (.cells #[.string s, .int .i64 0, .int .i64 0, .string ⟨#[]⟩, .slice none 0 0, .slice none 0 0] 54))
  have D5 := hid (show Below w.heap.size w w5 from ⟨hg5.os.trans (hwn.out.os.trans D4.out.os), hg5.tape.trans (hwn.out.tape.trans D4.out.tape), hg5.output.trans (hwn.out.output.trans D4.out.output), Nat.le_trans D4.out.size (Nat.le_trans hwn.out.size hg5.size), fun k hk => (hg5.block k (Nat.lt_of_lt_of_le hk (Nat.le_trans D4.out.size hwn.out.size)) (fun e => by have := (hvb.out k e.symm).1; have := hA.out; have := hlow.out; omega)).trans ((hwn.out.block k (Nat.lt_of_lt_of_le hk D4.out.size)).trans (D4.out.block k hk))⟩)
  have k0 := hid ((hg5.block _ (lt_of_block (al_old m0.out)) (fun e => by have := (hvb.out _ e.symm).1; have := hA.out; have := hlow.out; omega)).trans (al_old m0.out))
  have k2 := hid ((hg5.block _ (lt_of_block (al_old m2.out)) (fun e => by have := (hvb.out _ e.symm).1; have := hA.out; have := hlow.out; omega)).trans (al_old m2.out))
  have k5 := hid ((hg5.block _ (lt_of_block (al_old m5.out)) (fun e => by have := (hvb.out _ e.symm).1; have := hA.out; omega)).trans (al_old m5.out))
  have hgA := hown5.lt g rfl
  have hgl : Hid (w2.heap.size + 1 ≤ g ∧ g < w5.heap.size) := ⟨by have := hgA.1; have := hA.out; omega, hgA.2⟩
  have hw2w : Hid (w.heap.size + 2 < w2.heap.size) := hlow.out
  have hoR := hid (fun w' (_ : Below w5.heap.size w5 w') => (rd_docE : Rd w' S docE _))
  replace hown5 := hid hown5
  have hfl0 : fn.length = fv.length := hfl.out
  have hcl0 : css.length = fv.length := hcll.out
  have hin0 : i ≤ fv.length := by rw [hi.out, ← hfl0]; exact posP_le s fn
  obtain ⟨N, hN⟩ : ∃ N, N = fv.length + 1 := ⟨_, rfl⟩
  obtain ⟨FN, hFN⟩ : ∃ FN, FN = insA fn i s := ⟨_, rfl⟩
  obtain ⟨FV, hFV⟩ : ∃ FV, FV = insA fv i docE := ⟨_, rfl⟩
  obtain ⟨CS, hCS⟩ : ∃ CS, CS = insA css i [.string s, .int .i64 0, .int .i64 0, .string ⟨#[]⟩, .slice none 0 0, .slice none 0 0] := ⟨_, rfl⟩
  have hall : Hid (∀ (j : Nat) nm x cs, j ≠ i → FN[j]? = some nm → FV[j]? = some x → CS[j]? = some cs → RdFl w S (nm, x) cs) := by
   rw [hFN, hFV, hCS]
   intro j nm x cs hj h1 h2 h3
   rw [insA_get _ _ (by omega)] at h1 h2 h3
   by_cases hlt : j < i
   ·rw [if_pos hlt] at h1 h2 h3; exact hce.out j nm x cs h1 h2 h3
   ·rw [if_neg hlt, if_neg hj] at h1 h2 h3; exact hce.out (j - 1) nm x cs h1 h2 h3
  have hmem : ∀ cs ∈ CS, cs ∈ css ∨ cs = [.string s, .int .i64 0, .int .i64 0, .string ⟨#[]⟩, .slice none 0 0, .slice none 0 0] := fun cs hc => by
   rw [hCS, insA] at hc
   rcases List.mem_append.1 hc with hc | hc
   ·exact .inl (List.mem_of_mem_take hc)
   ·rcases List.mem_cons.1 hc with hc | hc
    ·exact .inr hc
    ·exact .inl (List.mem_of_mem_drop hc)
  have hc6' : Hid (∀ cs ∈ CS, cs.length = 6) := fun cs hc => by
   rcases hmem cs hc with hc | rfl
   ·exact hc6.out cs hc
   ·rfl
  have hc1' : Hid (∀ cs ∈ CS, ∀ u ∈ cs, u.oneCell' = true) := fun cs hc => by
   rcases hmem cs hc with hc | rfl
   ·exact hc1.out cs hc
   ·simp [Value.oneCell']
  clear hmem hc6 hc1
  have hc6 := hc6'
  have hc1 := hc1'
  have hCSl : Hid (CS.length = N) := by show _ = _; rw [hN, hCS, insA_len' _ _ _ (by omega), hcl0]
  have hFNl : Hid (FN.length = N) := by show _ = _; rw [hN, hFN, insA_len' _ _ _ (by omega), hfl0]
  have hFVl : Hid (FV.length = N) := by show _ = _; rw [hN, hFV, insA_len' _ _ _ (by omega)]
  have hFNs : Hid (FN[i]? = some s) := by show _ = _; rw [hFN, insA_get _ _ (by omega), if_neg (Nat.lt_irrefl i), if_pos rfl]
  have hCSi : Hid (∃ rest, CS[i]? = some (.string s :: rest)) := by rw [hCS]; exact ⟨_, by rw [insA_get _ _ (by omega), if_neg (Nat.lt_irrefl i), if_pos rfl]⟩
  have hNl : Hid (N ≤ 1000000000000) := by have := hvl.out; show _ ≤ _; omega
  have hiN : i < N := by omega
  rw [← hCS] at hown5
  rw [← hN] at hown5 ⊢
  have hrv2 : Hid (rv = docL (if qg = true then FN.eraseIdx i else FN) (if qg = true then FV.eraseIdx i else FV.set i qv)) := by show _ = _; rw [hFN, hFV]; exact hrv.out
  clear hrv
  replace hN := hid hN
  clear hFN hFV hCS hce hcll hfl hfi hvl m0 m2 m5 p0 p1 p2 D4 D2 hdE hi hin hfl0 hcl0 hin0 hc6' hc1' hvb hA4 hg5 hgA hwn hlow
  go_upto_region 19 with fail
  have hw2 : Hid (w.heap.size + 2 < w2.heap.size) := hw2w.out
  have hWy := hid (fun w' (h : Below w5.heap.size w5 w') => (hW9.out.trans ((D5.out.step h).mono hW9.out.size)))
  have hsk := hid (fun w' (h : Below w5.heap.size w5 w') => hss0.out.later (D5.out.step h))
  have hS9 : Hid (∀ x : World, (∀ b, b < w5.heap.size → x.heap[b]? = w5.heap[b]?) → RzS w.heap.size w2.heap.size (.func (.func kf) #[] caps) (.bool true) (.int .i64 6) (.int .i64 0) (.string ⟨#[]⟩) (.slice none 0 0) (.slice none 0 0) x) := fun x h => by
   have hB := (h _ (lt_of_block k0.out)).trans k0.out
   have hO := (h _ (lt_of_block k5.out)).trans k5.out
   exact ⟨box_at (j := 0) hB rfl, box_at (j := 1) hB rfl, box_at (j := 0) hO rfl, box_at (j := 1) hO rfl, box_at (j := 2) hO rfl, box_at (j := 3) hO rfl, box_at (j := 4) hO rfl⟩
  have hr1 : (1 : Int) ≤ (r.length : Int) + 1 := by omega
  have hiI : (i : Int) < (N : Int) := by omega
  go_cut [17, 18, 19] from 107 to 116 (fun s17 s18 s19 wx => ∃ (gx : Nat) (v0 v1 v2 v3 v4 : Value), s17 = .pointer (some ⟨gx, 0, none⟩) ∧ s18 = .bool qg ∧ s19 = .int .i64 qe ∧ wx.heap[gx]? = some (.cells #[v0, v1, v2, v3, v4] 25 (0, 0)) ∧ w5.heap.size ≤ gx ∧ Rd wx (fun c => S c ∨ From w5.heap.size wx c) qv [v0, v1, v2, v3, v4] ∧ Below w5.heap.size w5 wx)
  case first =>
   by_cases hc1 : sc = 1
   ·subst hc1
    obtain rfl : r = [] := List.length_eq_zero_iff.1 (by omega)
    simp only [List.length_nil] at hr1
    refine wp_region_T (RzS w.heap.size w2.heap.size (.func (.func kf) #[] caps) (.bool true) (.int .i64 6) (.int .i64 0) (.string ⟨#[]⟩) (.slice none 0 0) (.slice none 0 0)) 14 (by kernel_rfl) ?_
    have hT0 := hS9.out w5.drew (fun _ _ => rfl)
    ((refine wpAnyT_take (i := 0) (v := ?_) rfl (by kernel_rfl) (by kernel_rfl) (by kernel_rfl) (by kernel_rfl) (by exact fun _ _ _ h => h) (Or.inl ⟨by kernel_rfl, ?_⟩) hT0 ?_; rotate_left 1; focus (intro w hSw; unfold RzS at hSw; (try dsimp only at hSw); go_simp; try with_reducible rfl); (try simp only [List.getElem_toArray, List.getElem_cons_zero, List.getElem_cons_succ, Act.put, List.setIfInBounds_toArray, List.set_cons_zero, List.set_cons_succ])); (refine wpAnyT_take (i := 1) (v := ?_) rfl (by kernel_rfl) (by kernel_rfl) (by kernel_rfl) (by kernel_rfl) (by exact fun _ _ _ h => h) (Or.inl ⟨by kernel_rfl, ?_⟩) hT0 ?_; rotate_left 1; focus (intro w hSw; unfold RzS at hSw; (try dsimp only at hSw); go_simp; try with_reducible rfl); (try simp only [List.getElem_toArray, List.getElem_cons_zero, List.getElem_cons_succ, Act.put, List.setIfInBounds_toArray, List.set_cons_zero, List.set_cons_succ])); (refine wpAnyT_take (i := 2) (v := ?_) rfl (by kernel_rfl) (by kernel_rfl) (by kernel_rfl) (by kernel_rfl) (by exact fun _ _ _ h => h) (Or.inl ⟨by kernel_rfl, ?_⟩) hT0 ?_; rotate_left 1; focus (intro w hSw; unfold RzS at hSw; (try dsimp only at hSw); go_simp; try with_reducible rfl); (try simp only [List.getElem_toArray, List.getElem_cons_zero, List.getElem_cons_succ, Act.put, List.setIfInBounds_toArray, List.set_cons_zero, List.set_cons_succ])); (refine wpAnyT_take (i := 3) (v := ?_) rfl (by kernel_rfl) (by kernel_rfl) (by kernel_rfl) (by kernel_rfl) (by exact fun _ _ _ h => h) (Or.inl ⟨by kernel_rfl, ?_⟩) hT0 ?_; rotate_left 1; focus (intro w hSw; unfold RzS at hSw; (try dsimp only at hSw); go_simp; try with_reducible rfl); (try simp only [List.getElem_toArray, List.getElem_cons_zero, List.getElem_cons_succ, Act.put, List.setIfInBounds_toArray, List.set_cons_zero, List.set_cons_succ])); (refine wpAnyT_take (i := 4) (v := ?_) rfl (by kernel_rfl) (by kernel_rfl) (by kernel_rfl) (by kernel_rfl) (by exact fun _ _ _ h => h) (Or.inl ⟨by kernel_rfl, ?_⟩) hT0 ?_; rotate_left 1; focus (intro w hSw; unfold RzS at hSw; (try dsimp only at hSw); go_simp; try with_reducible rfl); (try simp only [List.getElem_toArray, List.getElem_cons_zero, List.getElem_cons_succ, Act.put, List.setIfInBounds_toArray, List.set_cons_zero, List.set_cons_succ])))
    refine wpAnyT_two (i := 5) (j := 10) (by kernel_rfl) rfl rfl (fun K hK => ?_) (fun K hK => ?_)
    ·go_simp
     refine (hay.out w5.drew _ _ _ (hWy.out _ (Below.refl w5.heap.size w5).drew) (hoR.out _ (Below.refl w5.heap.size w5).drew) (StrsAt.none_left (by omega))).mono ?_
     rintro e w6 ⟨cs6, rfl, h6, hr6⟩
     have E := hid ((Below.refl w5.heap.size w5).drew.step h6)
     have hT1 := hS9.out _ E.out.block
     obtain ⟨zk, zn, zt, zl, zfn, zfv⟩ := qv
     obtain ⟨qa, qc, pa, pc, rfl, _⟩ := hr6.inv
     replace hr6 := hid hr6
     clear h6 hT0
     (refine hK.out _ _ (fun _ => hT1) (fun _ => ?_); clear hK K; (try simp only [Act.put, List.setIfInBounds_toArray, List.set_cons_zero, List.set_cons_succ]))
     ((refine wpAnyT_take (i := 6) (v := ?_) rfl (by kernel_rfl) (by kernel_rfl) (by kernel_rfl) (by kernel_rfl) (by exact fun _ _ _ h => h) (Or.inl ⟨by kernel_rfl, ?_⟩) hT1 ?_; rotate_left 1; focus (intro w hSw; unfold RzS at hSw; (try dsimp only at hSw); go_simp; try with_reducible rfl); (try simp only [List.getElem_toArray, List.getElem_cons_zero, List.getElem_cons_succ, Act.put, List.setIfInBounds_toArray, List.set_cons_zero, List.set_cons_succ])); (refine wpAnyT_take (i := 7) (v := ?_) rfl (by kernel_rfl) (by kernel_rfl) (by kernel_rfl) (by kernel_rfl) (by exact fun _ _ _ h => h) (Or.inl ⟨by kernel_rfl, ?_⟩) hT1 ?_; rotate_left 1; focus (intro w hSw; unfold RzS at hSw; (try dsimp only at hSw); go_simp; try with_reducible rfl); (try simp only [List.getElem_toArray, List.getElem_cons_zero, List.getElem_cons_succ, Act.put, List.setIfInBounds_toArray, List.set_cons_zero, List.set_cons_succ])); (refine wpAnyT_take (i := 8) (v := ?_) rfl (by kernel_rfl) (by kernel_rfl) (by kernel_rfl) (by kernel_rfl) (by exact fun _ _ _ h => h) (Or.inl ⟨by kernel_rfl, ?_⟩) hT1 ?_; rotate_left 1; focus (intro w hSw; unfold RzS at hSw; (try dsimp only at hSw); go_simp; try with_reducible rfl); (try simp only [List.getElem_toArray, List.getElem_cons_zero, List.getElem_cons_succ, Act.put, List.setIfInBounds_toArray, List.set_cons_zero, List.set_cons_succ])); (refine wpAnyT_take (i := 9) (v := ?_) rfl (by kernel_rfl) (by kernel_rfl) (by kernel_rfl) (by kernel_rfl) (by exact fun _ _ _ h => h) (Or.inl ⟨by kernel_rfl, ?_⟩) hT1 ?_; rotate_left 1; focus (intro w hSw; unfold RzS at hSw; (try dsimp only at hSw); go_simp; try with_reducible rfl); (try simp only [List.getElem_toArray, List.getElem_cons_zero, List.getElem_cons_succ, Act.put, List.setIfInBounds_toArray, List.set_cons_zero, List.set_cons_succ])))
     refine wpAnyT_one (i := 10) (by kernel_rfl) rfl (fun K hK => ?_)
     go_simp
     have E2 := hid (E.out.step (below_new w6 (.cells #[.int .i64 0, .int .i64 0, .string ⟨#[]⟩, .slice none 0 0, .slice none 0 0] 25)))
     have hT2 := hS9.out _ E2.out.block
     clear hT1
     (refine hK.out _ _ (fun _ => hT2) (fun _ => ?_); clear hK K; (try simp only [Act.put, List.setIfInBounds_toArray, List.set_cons_zero, List.set_cons_succ]))
     refine wpAnyT_one (i := 11) (by kernel_rfl) rfl (fun K hK => ?_)
     go_simp
     have E3 := hid (E.out.step (below_new w6 (.cells #[.int .i64 zk, .int .i64 zn, .string zt, .slice qa zl.length qc, .slice pa zfv.length pc] 25)))
     have hT3 := hS9.out _ E3.out.block
     clear hT2
     (refine hK.out _ _ (fun _ => hT3) (fun _ => ?_); clear hK K; (try simp only [Act.put, List.setIfInBounds_toArray, List.set_cons_zero, List.set_cons_succ]))
     refine wpAnyT_one (i := 12) (by kernel_rfl) rfl (fun K hK => ?_)
     go_simp
     (refine hK.out _ _ (fun _ => hT3) (fun _ => ?_); clear hK K; (try simp only [Act.put, List.setIfInBounds_toArray, List.set_cons_zero, List.set_cons_succ]))
     refine wpAnyT_one (i := 13) (by kernel_rfl) rfl (fun K hK => ?_)
     go_simp
     (refine hK.out _ _ (fun _ => hT3) (fun _ => ?_); clear hK K; (try simp only [Act.put, List.setIfInBounds_toArray, List.set_cons_zero, List.set_cons_succ]))
     refine wpAnyT_done (by kernel_rfl) ?_ _
     go_wp2_with fail
     go_meet
     exact ⟨_, _, _, _, _, _, rfl, rfl, rfl, heap_alloc_new w6 _, E.out.size, hr6.out.keep (fun c h => h.imp id (fun h => ⟨h.1, Nat.lt_of_lt_of_le h.2 (below_new w6 _).size⟩)) (fun b hb => (below_new w6 _).block b (hb.elim (fun h => Nat.lt_of_lt_of_le (hSw.out b h) (Nat.le_trans D5.out.size E.out.size)) (fun h => h.2))), E3.out⟩
    ·go_simp
     obtain ⟨wg, hwg⟩ : ∃ wg, wg = w5.alloc (.cells #[.int .i64 0, .int .i64 0, .string ⟨#[]⟩, .slice none 0 0, .slice none 0 0] 25) := ⟨_, rfl⟩
     have E1 : Hid (Below w5.heap.size w5 wg) := by show Below _ _ _; rw [hwg]; exact below_new _ _
     have gz : Hid (wg.heap[w5.heap.size]? = some (.cells #[.int .i64 0, .int .i64 0, .string ⟨#[]⟩, .slice none 0 0, .slice none 0 0] 25 (0, 0))) := by show _ = _; rw [hwg]; exact heap_alloc_new _ _
     have gs : Hid (wg.heap.size = w5.heap.size + 1) := by show _ = _; rw [hwg]; simp
     rw [← hwg]
     clear hwg
     have hT1 := hS9.out wg.drew E1.out.block
     clear hT0
     (refine hK.out _ _ (fun _ => hT1) (fun _ => ?_); clear hK K; (try simp only [Act.put, List.setIfInBounds_toArray, List.set_cons_zero, List.set_cons_succ]))
     refine wpAnyT_one (i := 5) (by kernel_rfl) rfl (fun K hK => ?_)
     go_simp
     refine (hay.out wg.drew _ _ _ (hWy.out _ (E1.out.step (Below.refl wg.heap.size wg).drew)) (hoR.out _ (E1.out.step (Below.refl wg.heap.size wg).drew)) (StrsAt.none_left (by omega))).mono ?_
     rintro e w6 ⟨cs6, rfl, h6, hr6⟩
     have E := hid (E1.out.step ((Below.refl wg.heap.size wg).drew.step h6))
     have g4 := hid (((Below.refl wg.heap.size wg).drew.step h6).block _ (lt_of_block gz.out) |>.trans gz.out)
     have hT2 := hS9.out _ E.out.block
     obtain ⟨zk, zn, zt, zl, zfn, zfv⟩ := qv
     obtain ⟨qa, qc, pa, pc, rfl, _⟩ := hr6.inv
     replace hr6 := hid hr6
     clear h6 hT1
     (refine hK.out _ _ (fun _ => hT2) (fun _ => ?_); clear hK K; (try simp only [Act.put, List.setIfInBounds_toArray, List.set_cons_zero, List.set_cons_succ]))
     ((refine wpAnyT_take (i := 6) (v := ?_) rfl (by kernel_rfl) (by kernel_rfl) (by kernel_rfl) (by kernel_rfl) (by exact fun _ _ _ h => h) (Or.inl ⟨by kernel_rfl, ?_⟩) hT2 ?_; rotate_left 1; focus (intro w hSw; unfold RzS at hSw; (try dsimp only at hSw); go_simp; try with_reducible rfl); (try simp only [List.getElem_toArray, List.getElem_cons_zero, List.getElem_cons_succ, Act.put, List.setIfInBounds_toArray, List.set_cons_zero, List.set_cons_succ])); (refine wpAnyT_take (i := 7) (v := ?_) rfl (by kernel_rfl) (by kernel_rfl) (by kernel_rfl) (by kernel_rfl) (by exact fun _ _ _ h => h) (Or.inl ⟨by kernel_rfl, ?_⟩) hT2 ?_; rotate_left 1; focus (intro w hSw; unfold RzS at hSw; (try dsimp only at hSw); go_simp; try with_reducible rfl); (try simp only [List.getElem_toArray, List.getElem_cons_zero, List.getElem_cons_succ, Act.put, List.setIfInBounds_toArray, List.set_cons_zero, List.set_cons_succ])); (refine wpAnyT_take (i := 8) (v := ?_) rfl (by kernel_rfl) (by kernel_rfl) (by kernel_rfl) (by kernel_rfl) (by exact fun _ _ _ h => h) (Or.inl ⟨by kernel_rfl, ?_⟩) hT2 ?_; rotate_left 1; focus (intro w hSw; unfold RzS at hSw; (try dsimp only at hSw); go_simp; try with_reducible rfl); (try simp only [List.getElem_toArray, List.getElem_cons_zero, List.getElem_cons_succ, Act.put, List.setIfInBounds_toArray, List.set_cons_zero, List.set_cons_succ])); (refine wpAnyT_take (i := 9) (v := ?_) rfl (by kernel_rfl) (by kernel_rfl) (by kernel_rfl) (by kernel_rfl) (by exact fun _ _ _ h => h) (Or.inl ⟨by kernel_rfl, ?_⟩) hT2 ?_; rotate_left 1; focus (intro w hSw; unfold RzS at hSw; (try dsimp only at hSw); go_simp; try with_reducible rfl); (try simp only [List.getElem_toArray, List.getElem_cons_zero, List.getElem_cons_succ, Act.put, List.setIfInBounds_toArray, List.set_cons_zero, List.set_cons_succ])))
     have c0 := box_at (j := 0) g4.out rfl
     have c1 := box_at (j := 1) g4.out rfl
     have c2 := box_at (j := 2) g4.out rfl
     have c3 := box_at (j := 3) g4.out rfl
     have c4 := box_at (j := 4) g4.out rfl
     have f0 := box_free g4.out
     refine wpAnyT_one (i := 11) (by kernel_rfl) rfl (fun K hK => ?_)
     go_simp
     clear c0 c1 c2 c3 c4
     clear f0
     have hbz := hid (set5_below E.out (Nat.le_refl _) (.int .i64 zk) (.int .i64 zn) (.string zt) (.slice qa zl.length qc) (.slice pa zfv.length pc))
     have rz := hid (set5_box (u0 := .int .i64 zk) (u1 := .int .i64 zn) (u2 := .string zt) (u3 := .slice qa zl.length qc) (u4 := .slice pa zfv.length pc) g4.out)
     have hkp := hid (fun b (hb : b ≠ w5.heap.size) => set5_other w6 (w5.heap.size) (.int .i64 zk) (.int .i64 zn) (.string zt) (.slice qa zl.length qc) (.slice pa zfv.length pc) (b := b) hb)
     have hsz9 := hid (set5_size w6 (w5.heap.size) (.int .i64 zk) (.int .i64 zn) (.string zt) (.slice qa zl.length qc) (.slice pa zfv.length pc))
     unfold set5 at hbz rz hkp hsz9
     generalize ((((w6.setCell ⟨w5.heap.size, 0, none⟩ (.int .i64 zk)).setCell ⟨w5.heap.size, 1, none⟩ (.int .i64 zn)).setCell ⟨w5.heap.size, 2, none⟩ (.string zt)).setCell ⟨w5.heap.size, 3, none⟩ (.slice qa zl.length qc)).setCell ⟨w5.heap.size, 4, none⟩ (.slice pa zfv.length pc) = w9 at *
     have hT3 := hS9.out _ hbz.out.block
     clear hT2
     (refine hK.out _ _ (fun _ => hT3) (fun _ => ?_); clear hK K; (try simp only [Act.put, List.setIfInBounds_toArray, List.set_cons_zero, List.set_cons_succ]))
     refine wpAnyT_one (i := 12) (by kernel_rfl) rfl (fun K hK => ?_)
     go_simp
     (refine hK.out _ _ (fun _ => hT3) (fun _ => ?_); clear hK K; (try simp only [Act.put, List.setIfInBounds_toArray, List.set_cons_zero, List.set_cons_succ]))
     refine wpAnyT_one (i := 13) (by kernel_rfl) rfl (fun K hK => ?_)
     go_simp
     (refine hK.out _ _ (fun _ => hT3) (fun _ => ?_); clear hK K; (try simp only [Act.put, List.setIfInBounds_toArray, List.set_cons_zero, List.set_cons_succ]))
     refine wpAnyT_done (by kernel_rfl) ?_ _
     go_wp2_with fail
     go_meet
     have hgs2 : wg.drew.heap.size = w5.heap.size + 1 := gs.out
     exact ⟨_, _, _, _, _, _, rfl, rfl, rfl, rz.out, Nat.le_refl _, hr6.out.keep (fun c h => h.imp id (fun h => ⟨by have := h.1; omega, by rw [hsz9.out]; exact h.2⟩)) (fun b hb => hkp.out b (hb.elim (fun h => by have := hSw.out b h; have := D5.out.size; omega) (fun h => by have := h.1; omega))), hbz.out⟩
   ·refine wp_region_T (RzS w.heap.size w2.heap.size (.func (.func kf) #[] caps) (.bool true) (.int .i64 6) (.int .i64 0) (.string ⟨#[]⟩) (.slice none 0 0) (.slice none 0 0)) 14 (by kernel_rfl) ?_
    have hT0 := hS9.out w5.drew (fun _ _ => rfl)
    ((refine wpAnyT_take (i := 0) (v := ?_) rfl (by kernel_rfl) (by kernel_rfl) (by kernel_rfl) (by kernel_rfl) (by exact fun _ _ _ h => h) (Or.inl ⟨by kernel_rfl, ?_⟩) hT0 ?_; rotate_left 1; focus (intro w hSw; unfold RzS at hSw; (try dsimp only at hSw); go_simp; try with_reducible rfl); (try simp only [List.getElem_toArray, List.getElem_cons_zero, List.getElem_cons_succ, Act.put, List.setIfInBounds_toArray, List.set_cons_zero, List.set_cons_succ])); (refine wpAnyT_take (i := 1) (v := ?_) rfl (by kernel_rfl) (by kernel_rfl) (by kernel_rfl) (by kernel_rfl) (by exact fun _ _ _ h => h) (Or.inl ⟨by kernel_rfl, ?_⟩) hT0 ?_; rotate_left 1; focus (intro w hSw; unfold RzS at hSw; (try dsimp only at hSw); go_simp; try with_reducible rfl); (try simp only [List.getElem_toArray, List.getElem_cons_zero, List.getElem_cons_succ, Act.put, List.setIfInBounds_toArray, List.set_cons_zero, List.set_cons_succ])); (refine wpAnyT_take (i := 2) (v := ?_) rfl (by kernel_rfl) (by kernel_rfl) (by kernel_rfl) (by kernel_rfl) (by exact fun _ _ _ h => h) (Or.inl ⟨by kernel_rfl, ?_⟩) hT0 ?_; rotate_left 1; focus (intro w hSw; unfold RzS at hSw; (try dsimp only at hSw); go_simp; try with_reducible rfl); (try simp only [List.getElem_toArray, List.getElem_cons_zero, List.getElem_cons_succ, Act.put, List.setIfInBounds_toArray, List.set_cons_zero, List.set_cons_succ])); (refine wpAnyT_take (i := 3) (v := ?_) rfl (by kernel_rfl) (by kernel_rfl) (by kernel_rfl) (by kernel_rfl) (by exact fun _ _ _ h => h) (Or.inl ⟨by kernel_rfl, ?_⟩) hT0 ?_; rotate_left 1; focus (intro w hSw; unfold RzS at hSw; (try dsimp only at hSw); go_simp; try with_reducible rfl); (try simp only [List.getElem_toArray, List.getElem_cons_zero, List.getElem_cons_succ, Act.put, List.setIfInBounds_toArray, List.set_cons_zero, List.set_cons_succ])); (refine wpAnyT_take (i := 4) (v := ?_) rfl (by kernel_rfl) (by kernel_rfl) (by kernel_rfl) (by kernel_rfl) (by exact fun _ _ _ h => h) (Or.inl ⟨by kernel_rfl, ?_⟩) hT0 ?_; rotate_left 1; focus (intro w hSw; unfold RzS at hSw; (try dsimp only at hSw); go_simp; try with_reducible rfl); (try simp only [List.getElem_toArray, List.getElem_cons_zero, List.getElem_cons_succ, Act.put, List.setIfInBounds_toArray, List.set_cons_zero, List.set_cons_succ])))
    refine wpAnyT_two (i := 5) (j := 10) (by kernel_rfl) rfl rfl (fun K hK => ?_) (fun K hK => ?_)
    ·go_simp
     refine (hay.out w5.drew _ _ _ (hWy.out _ (Below.refl w5.heap.size w5).drew) (hoR.out _ (Below.refl w5.heap.size w5).drew) (hsk.out _ (Below.refl w5.heap.size w5).drew).tail).mono ?_
     rintro e w6 ⟨cs6, rfl, h6, hr6⟩
     have E := hid ((Below.refl w5.heap.size w5).drew.step h6)
     have hT1 := hS9.out _ E.out.block
     obtain ⟨zk, zn, zt, zl, zfn, zfv⟩ := qv
     obtain ⟨qa, qc, pa, pc, rfl, _⟩ := hr6.inv
     replace hr6 := hid hr6
     clear h6 hT0
     (refine hK.out _ _ (fun _ => hT1) (fun _ => ?_); clear hK K; (try simp only [Act.put, List.setIfInBounds_toArray, List.set_cons_zero, List.set_cons_succ]))
     ((refine wpAnyT_take (i := 6) (v := ?_) rfl (by kernel_rfl) (by kernel_rfl) (by kernel_rfl) (by kernel_rfl) (by exact fun _ _ _ h => h) (Or.inl ⟨by kernel_rfl, ?_⟩) hT1 ?_; rotate_left 1; focus (intro w hSw; unfold RzS at hSw; (try dsimp only at hSw); go_simp; try with_reducible rfl); (try simp only [List.getElem_toArray, List.getElem_cons_zero, List.getElem_cons_succ, Act.put, List.setIfInBounds_toArray, List.set_cons_zero, List.set_cons_succ])); (refine wpAnyT_take (i := 7) (v := ?_) rfl (by kernel_rfl) (by kernel_rfl) (by kernel_rfl) (by kernel_rfl) (by exact fun _ _ _ h => h) (Or.inl ⟨by kernel_rfl, ?_⟩) hT1 ?_; rotate_left 1; focus (intro w hSw; unfold RzS at hSw; (try dsimp only at hSw); go_simp; try with_reducible rfl); (try simp only [List.getElem_toArray, List.getElem_cons_zero, List.getElem_cons_succ, Act.put, List.setIfInBounds_toArray, List.set_cons_zero, List.set_cons_succ])); (refine wpAnyT_take (i := 8) (v := ?_) rfl (by kernel_rfl) (by kernel_rfl) (by kernel_rfl) (by kernel_rfl) (by exact fun _ _ _ h => h) (Or.inl ⟨by kernel_rfl, ?_⟩) hT1 ?_; rotate_left 1; focus (intro w hSw; unfold RzS at hSw; (try dsimp only at hSw); go_simp; try with_reducible rfl); (try simp only [List.getElem_toArray, List.getElem_cons_zero, List.getElem_cons_succ, Act.put, List.setIfInBounds_toArray, List.set_cons_zero, List.set_cons_succ])); (refine wpAnyT_take (i := 9) (v := ?_) rfl (by kernel_rfl) (by kernel_rfl) (by kernel_rfl) (by kernel_rfl) (by exact fun _ _ _ h => h) (Or.inl ⟨by kernel_rfl, ?_⟩) hT1 ?_; rotate_left 1; focus (intro w hSw; unfold RzS at hSw; (try dsimp only at hSw); go_simp; try with_reducible rfl); (try simp only [List.getElem_toArray, List.getElem_cons_zero, List.getElem_cons_succ, Act.put, List.setIfInBounds_toArray, List.set_cons_zero, List.set_cons_succ])))
     refine wpAnyT_one (i := 10) (by kernel_rfl) rfl (fun K hK => ?_)
     go_simp
     have E2 := hid (E.out.step (below_new w6 (.cells #[.int .i64 0, .int .i64 0, .string ⟨#[]⟩, .slice none 0 0, .slice none 0 0] 25)))
     have hT2 := hS9.out _ E2.out.block
     clear hT1
     (refine hK.out _ _ (fun _ => hT2) (fun _ => ?_); clear hK K; (try simp only [Act.put, List.setIfInBounds_toArray, List.set_cons_zero, List.set_cons_succ]))
     refine wpAnyT_one (i := 11) (by kernel_rfl) rfl (fun K hK => ?_)
     go_simp
     have E3 := hid (E.out.step (below_new w6 (.cells #[.int .i64 zk, .int .i64 zn, .string zt, .slice qa zl.length qc, .slice pa zfv.length pc] 25)))
     have hT3 := hS9.out _ E3.out.block
     clear hT2
     (refine hK.out _ _ (fun _ => hT3) (fun _ => ?_); clear hK K; (try simp only [Act.put, List.setIfInBounds_toArray, List.set_cons_zero, List.set_cons_succ]))
     refine wpAnyT_one (i := 12) (by kernel_rfl) rfl (fun K hK => ?_)
     go_simp
     (refine hK.out _ _ (fun _ => hT3) (fun _ => ?_); clear hK K; (try simp only [Act.put, List.setIfInBounds_toArray, List.set_cons_zero, List.set_cons_succ]))
     refine wpAnyT_one (i := 13) (by kernel_rfl) rfl (fun K hK => ?_)
     go_simp
     (refine hK.out _ _ (fun _ => hT3) (fun _ => ?_); clear hK K; (try simp only [Act.put, List.setIfInBounds_toArray, List.set_cons_zero, List.set_cons_succ]))
     refine wpAnyT_done (by kernel_rfl) ?_ _
     go_wp2_with fail
     go_meet
     exact ⟨_, _, _, _, _, _, rfl, rfl, rfl, heap_alloc_new w6 _, E.out.size, hr6.out.keep (fun c h => h.imp id (fun h => ⟨h.1, Nat.lt_of_lt_of_le h.2 (below_new w6 _).size⟩)) (fun b hb => (below_new w6 _).block b (hb.elim (fun h => Nat.lt_of_lt_of_le (hSw.out b h) (Nat.le_trans D5.out.size E.out.size)) (fun h => h.2))), E3.out⟩
    ·go_simp
     obtain ⟨wg, hwg⟩ : ∃ wg, wg = w5.alloc (.cells #[.int .i64 0, .int .i64 0, .string ⟨#[]⟩, .slice none 0 0, .slice none 0 0] 25) := ⟨_, rfl⟩
     have E1 : Hid (Below w5.heap.size w5 wg) := by show Below _ _ _; rw [hwg]; exact below_new _ _
     have gz : Hid (wg.heap[w5.heap.size]? = some (.cells #[.int .i64 0, .int .i64 0, .string ⟨#[]⟩, .slice none 0 0, .slice none 0 0] 25 (0, 0))) := by show _ = _; rw [hwg]; exact heap_alloc_new _ _
     have gs : Hid (wg.heap.size = w5.heap.size + 1) := by show _ = _; rw [hwg]; simp
     rw [← hwg]
     clear hwg
     have hT1 := hS9.out wg.drew E1.out.block
     clear hT0
     (refine hK.out _ _ (fun _ => hT1) (fun _ => ?_); clear hK K; (try simp only [Act.put, List.setIfInBounds_toArray, List.set_cons_zero, List.set_cons_succ]))
     refine wpAnyT_one (i := 5) (by kernel_rfl) rfl (fun K hK => ?_)
     go_simp
     refine (hay.out wg.drew _ _ _ (hWy.out _ (E1.out.step (Below.refl wg.heap.size wg).drew)) (hoR.out _ (E1.out.step (Below.refl wg.heap.size wg).drew)) (hsk.out _ (E1.out.step (Below.refl wg.heap.size wg).drew)).tail).mono ?_
     rintro e w6 ⟨cs6, rfl, h6, hr6⟩
     have E := hid (E1.out.step ((Below.refl wg.heap.size wg).drew.step h6))
     have g4 := hid (((Below.refl wg.heap.size wg).drew.step h6).block _ (lt_of_block gz.out) |>.trans gz.out)
     have hT2 := hS9.out _ E.out.block
     obtain ⟨zk, zn, zt, zl, zfn, zfv⟩ := qv
     obtain ⟨qa, qc, pa, pc, rfl, _⟩ := hr6.inv
     replace hr6 := hid hr6
     clear h6 hT1
     (refine hK.out _ _ (fun _ => hT2) (fun _ => ?_); clear hK K; (try simp only [Act.put, List.setIfInBounds_toArray, List.set_cons_zero, List.set_cons_succ]))
     ((refine wpAnyT_take (i := 6) (v := ?_) rfl (by kernel_rfl) (by kernel_rfl) (by kernel_rfl) (by kernel_rfl) (by exact fun _ _ _ h => h) (Or.inl ⟨by kernel_rfl, ?_⟩) hT2 ?_; rotate_left 1; focus (intro w hSw; unfold RzS at hSw; (try dsimp only at hSw); go_simp; try with_reducible rfl); (try simp only [List.getElem_toArray, List.getElem_cons_zero, List.getElem_cons_succ, Act.put, List.setIfInBounds_toArray, List.set_cons_zero, List.set_cons_succ])); (refine wpAnyT_take (i := 7) (v := ?_) rfl (by kernel_rfl) (by kernel_rfl) (by kernel_rfl) (by kernel_rfl) (by exact fun _ _ _ h => h) (Or.inl ⟨by kernel_rfl, ?_⟩) hT2 ?_; rotate_left 1; focus (intro w hSw; unfold RzS at hSw; (try dsimp only at hSw); go_simp; try with_reducible rfl); (try simp only [List.getElem_toArray, List.getElem_cons_zero, List.getElem_cons_succ, Act.put, List.setIfInBounds_toArray, List.set_cons_zero, List.set_cons_succ])); (refine wpAnyT_take (i := 8) (v := ?_) rfl (by kernel_rfl) (by kernel_rfl) (by kernel_rfl) (by kernel_rfl) (by exact fun _ _ _ h => h) (Or.inl ⟨by kernel_rfl, ?_⟩) hT2 ?_; rotate_left 1; focus (intro w hSw; unfold RzS at hSw; (try dsimp only at hSw); go_simp; try with_reducible rfl); (try simp only [List.getElem_toArray, List.getElem_cons_zero, List.getElem_cons_succ, Act.put, List.setIfInBounds_toArray, List.set_cons_zero, List.set_cons_succ])); (refine wpAnyT_take (i := 9) (v := ?_) rfl (by kernel_rfl) (by kernel_rfl) (by kernel_rfl) (by kernel_rfl) (by exact fun _ _ _ h => h) (Or.inl ⟨by kernel_rfl, ?_⟩) hT2 ?_; rotate_left 1; focus (intro w hSw; unfold RzS at hSw; (try dsimp only at hSw); go_simp; try with_reducible rfl); (try simp only [List.getElem_toArray, List.getElem_cons_zero, List.getElem_cons_succ, Act.put, List.setIfInBounds_toArray, List.set_cons_zero, List.set_cons_succ])))
     have c0 := box_at (j := 0) g4.out rfl
     have c1 := box_at (j := 1) g4.out rfl
     have c2 := box_at (j := 2) g4.out rfl
     have c3 := box_at (j := 3) g4.out rfl
     have c4 := box_at (j := 4) g4.out rfl
     have f0 := box_free g4.out
     refine wpAnyT_one (i := 11) (by kernel_rfl) rfl (fun K hK => ?_)
     go_simp
     clear c0 c1 c2 c3 c4
     clear f0
     have hbz := hid (set5_below E.out (Nat.le_refl _) (.int .i64 zk) (.int .i64 zn) (.string zt) (.slice qa zl.length qc) (.slice pa zfv.length pc))
     have rz := hid (set5_box (u0 := .int .i64 zk) (u1 := .int .i64 zn) (u2 := .string zt) (u3 := .slice qa zl.length qc) (u4 := .slice pa zfv.length pc) g4.out)
     have hkp := hid (fun b (hb : b ≠ w5.heap.size) => set5_other w6 (w5.heap.size) (.int .i64 zk) (.int .i64 zn) (.string zt) (.slice qa zl.length qc) (.slice pa zfv.length pc) (b := b) hb)
     have hsz9 := hid (set5_size w6 (w5.heap.size) (.int .i64 zk) (.int .i64 zn) (.string zt) (.slice qa zl.length qc) (.slice pa zfv.length pc))
     unfold set5 at hbz rz hkp hsz9
     generalize ((((w6.setCell ⟨w5.heap.size, 0, none⟩ (.int .i64 zk)).setCell ⟨w5.heap.size, 1, none⟩ (.int .i64 zn)).setCell ⟨w5.heap.size, 2, none⟩ (.string zt)).setCell ⟨w5.heap.size, 3, none⟩ (.slice qa zl.length qc)).setCell ⟨w5.heap.size, 4, none⟩ (.slice pa zfv.length pc) = w9 at *
     have hT3 := hS9.out _ hbz.out.block
     clear hT2
     (refine hK.out _ _ (fun _ => hT3) (fun _ => ?_); clear hK K; (try simp only [Act.put, List.setIfInBounds_toArray, List.set_cons_zero, List.set_cons_succ]))
     refine wpAnyT_one (i := 12) (by kernel_rfl) rfl (fun K hK => ?_)
     go_simp
     (refine hK.out _ _ (fun _ => hT3) (fun _ => ?_); clear hK K; (try simp only [Act.put, List.setIfInBounds_toArray, List.set_cons_zero, List.set_cons_succ]))
     refine wpAnyT_one (i := 13) (by kernel_rfl) rfl (fun K hK => ?_)
     go_simp
     (refine hK.out _ _ (fun _ => hT3) (fun _ => ?_); clear hK K; (try simp only [Act.put, List.setIfInBounds_toArray, List.set_cons_zero, List.set_cons_succ]))
     refine wpAnyT_done (by kernel_rfl) ?_ _
     go_wp2_with fail
     go_meet
     have hgs2 : wg.drew.heap.size = w5.heap.size + 1 := gs.out
     exact ⟨_, _, _, _, _, _, rfl, rfl, rfl, rz.out, Nat.le_refl _, hr6.out.keep (fun c h => h.imp id (fun h => ⟨by have := h.1; omega, by rw [hsz9.out]; exact h.2⟩)) (fun b hb => hkp.out b (hb.elim (fun h => by have := hSw.out b h; have := D5.out.size; omega) (fun h => by have := h.1; omega))), hbz.out⟩
  case rest =>
   obtain ⟨gx, v0, v1, v2, v3, v4, rfl, rfl, rfl, hgx, hgb, hrx, hE⟩ := hcut
   obtain ⟨zk, zn, zt, zl, zfn, zfv⟩ := qv
   obtain ⟨qa, qc, pa, pc, e5, _⟩ := hrx.inv
   simp only [List.cons.injEq, and_true] at e5
   obtain ⟨rfl, rfl, rfl, rfl, rfl⟩ := e5
   replace hgx := hid hgx
   replace hrx := hid hrx
   have D6 := hid (D5.out.step hE)
   have hown6 := hid (own_keep' (w' := wc) hown5.out (fun k' hk' => hE.block k' (Nat.lt_of_le_of_lt (Nat.le_of_eq (Option.some.inj hk').symm) hgl.out.2)))
   have n2 := hid ((hE.block _ (lt_of_block k2.out)).trans k2.out)
   have hgc := hid (show g < wc.heap.size from Nat.lt_of_lt_of_le hgl.out.2 hE.size)
   clear hE hS9 hay hWy hoR hsk hss0 hsc hsb hsc1 hsc2 hr1 hown5 hgb
   have hwr : IntKind.i64.wrap ((i : Int) + 1) = ((i + 1 : Nat) : Int) := by rw [IntWalk.i64_in _ (by have := hNl.out; omega)]; omega
   have hall9 : Hid (∀ w9 : World, Below w.heap.size w w9 → ∀ (j : Nat) nm x cs, j ≠ i → FN[j]? = some nm → FV[j]? = some x → CS[j]? = some cs → RdFl w9 (fun c => S c ∨ From w.heap.size w9 c) (nm, x) cs) := fun w9 h j nm x cs hj h1 h2 h3 => fldRel.keep (fun _ h => .inl h) (fun b hb => h.block b (hSw.out b hb)) (hall.out j nm x cs hj h1 h2 h3)
   clear hall
   cases qg with
   | true =>
    go_wp2_with fail
    have hdl := delF_calls (i := i) (css := CS) (w := wc) (cap := cap) (base := A) (g := g) (by rw [hCSl.out]; exact hown6.out) hc6.out hc1.out (by rw [hCSl.out]; exact hNl.out) (by rw [hCSl.out]; exact hiN)
    rw [hCSl.out] at hdl
    refine hdl.mono ?_
    rintro e w7 ⟨rfl, hg7, ho7⟩
    have D7 := hid (show Below w.heap.size w w7 from ⟨hg7.os.trans D6.out.os, hg7.tape.trans D6.out.tape, hg7.output.trans D6.out.output, Nat.le_trans D6.out.size hg7.size, fun k hk => (hg7.block k (Nat.lt_of_lt_of_le hk D6.out.size) (fun e => by injection e with e; have := hgl.out.1; have := hw2.out; omega)).trans (D6.out.block k hk)⟩)
    have p7 := hid ((hg7.block _ (lt_of_block n2.out) (fun e => by injection e with e; have := hgl.out.1; have := hw2.out; omega)).trans n2.out)
    have hg7s := hid (Nat.lt_of_lt_of_le hgc.out hg7.size)
    replace ho7 := hid ho7
    clear hdl hg7
    have c0 := box_at (j := 0) p7.out rfl
    have c1 := box_at (j := 1) p7.out rfl
    have c2 := box_at (j := 2) p7.out rfl
    have c3 := box_at (j := 3) p7.out rfl
    have c4 := box_at (j := 4) p7.out rfl
    have f0 := box_free p7.out
    go_wp2_with fail
    clear c0 c1 c2 c3 c4
    clear f0
    have hbz := hid (set5_below D7.out (Nat.le_add_right w.heap.size 2) (.int .i64 6) (.int .i64 0) (.string ⟨#[]⟩) (.slice none 0 0) (.slice (some ⟨g, 0, none⟩) (N - 1) cap))
    have rz := hid (set5_box (u0 := .int .i64 6) (u1 := .int .i64 0) (u2 := .string ⟨#[]⟩) (u3 := .slice none 0 0) (u4 := .slice (some ⟨g, 0, none⟩) (N - 1) cap) p7.out)
    have hkp := hid (fun b (hb : b ≠ w.heap.size + 2) => set5_other w7 (w.heap.size + 2) (.int .i64 6) (.int .i64 0) (.string ⟨#[]⟩) (.slice none 0 0) (.slice (some ⟨g, 0, none⟩) (N - 1) cap) (b := b) hb)
    have hsz9 := hid (set5_size w7 (w.heap.size + 2) (.int .i64 6) (.int .i64 0) (.string ⟨#[]⟩) (.slice none 0 0) (.slice (some ⟨g, 0, none⟩) (N - 1) cap))
    unfold set5 at hbz rz hkp hsz9
    generalize ((((w7.setCell ⟨w.heap.size + 2, 0, none⟩ (.int .i64 6)).setCell ⟨w.heap.size + 2, 1, none⟩ (.int .i64 0)).setCell ⟨w.heap.size + 2, 2, none⟩ (.string ⟨#[]⟩)).setCell ⟨w.heap.size + 2, 3, none⟩ (.slice none 0 0)).setCell ⟨w.heap.size + 2, 4, none⟩ (.slice (some ⟨g, 0, none⟩) (N - 1) cap) = w9 at *
    have z0 := box_at (j := 0) rz.out rfl
    have z1 := box_at (j := 1) rz.out rfl
    have z2 := box_at (j := 2) rz.out rfl
    have z3 := box_at (j := 3) rz.out rfl
    have z4 := box_at (j := 4) rz.out rfl
    refine ⟨rfl, _, by simp [results, Tryz.results44, go_sem, z0, z1, z2, z3, z4] <;> exact ⟨rfl, rfl⟩, [.int .i64 6, .int .i64 0, .string ⟨#[]⟩, .slice none 0 0, .slice (some ⟨g, 0, none⟩) (N - 1) cap], rfl, hbz.out, ?_⟩
    rw [show rv = docL (FN.eraseIdx i) (FV.eraseIdx i) from hrv2.out]
    refine doc_del (A := A) (own_keep' (w := w7) ho7.out (fun k' hk' => ?_)) hCSl.out hFNl.out hFVl.out hiN (hall9.out w9 hbz.out) (.inr ⟨by have := hgl.out.1; have := hw2.out; omega, by rw [hsz9.out]; exact hg7s.out⟩) (by have := hNl.out; omega)
    obtain rfl : g = k' := by injection hk' with hk'
    exact hkp.out g (by have := hgl.out.1; have := hw2.out; omega)
   | false =>
    have x0 := box_at (j := 0) hgx.out rfl
    have x1 := box_at (j := 1) hgx.out rfl
    have x2 := box_at (j := 2) hgx.out rfl
    have x3 := box_at (j := 3) hgx.out rfl
    have x4 := box_at (j := 4) hgx.out rfl
    have hth := hid (fun j (hj : j < 6) => own_there hown6.out (o := i * 6 + j) (by have h1 := (own_size hown6.out).1; have hmm : (i + 1) * 6 ≤ cap * 6 := Nat.mul_le_mul_right _ (by omega); omega))
    obtain ⟨u1, y1⟩ := Option.isSome_iff_exists.1 (hth.out 1 (by decide))
    obtain ⟨u2, y2⟩ := Option.isSome_iff_exists.1 (hth.out 2 (by decide))
    obtain ⟨u3, y3⟩ := Option.isSome_iff_exists.1 (hth.out 3 (by decide))
    obtain ⟨u4, y4⟩ := Option.isSome_iff_exists.1 (hth.out 4 (by decide))
    obtain ⟨u5, y5⟩ := Option.isSome_iff_exists.1 (hth.out 5 (by decide))
    have f0 := fun o => hown6.out.frozenAt o
    go_upto_region 23 with fail
    obtain ⟨rst, hrst⟩ := hCSi.out
    have hput : Hid (World.ownsRow (((((wc.setCell ⟨g, i * 6 + 1, none⟩ (.int .i64 zk)).setCell ⟨g, i * 6 + 2, none⟩ (.int .i64 zn)).setCell ⟨g, i * 6 + 3, none⟩ (.string zt)).setCell ⟨g, i * 6 + 4, none⟩ (.slice qa zl.length qc)).setCell ⟨g, i * 6 + 5, none⟩ (.slice pa zfv.length pc)) A 54 6 (.slice (some ⟨g, 0, none⟩) N cap) N (CS.set i (.string s :: [.int .i64 zk, .int .i64 zn, .string zt, .slice qa zl.length qc, .slice pa zfv.length pc])).flatten) :=
     own_put (a := 1) (vs := [.int .i64 zk, .int .i64 zn, .string zt, .slice qa zl.length qc, .slice pa zfv.length pc]) hown6.out hCSl.out hc6.out hrst rfl
    have hgr : Hid (wc.grownBy (((((wc.setCell ⟨g, i * 6 + 1, none⟩ (.int .i64 zk)).setCell ⟨g, i * 6 + 2, none⟩ (.int .i64 zn)).setCell ⟨g, i * 6 + 3, none⟩ (.string zt)).setCell ⟨g, i * 6 + 4, none⟩ (.slice qa zl.length qc)).setCell ⟨g, i * 6 + 5, none⟩ (.slice pa zfv.length pc)) (some g)) := setCells_grown g [.int .i64 zk, .int .i64 zn, .string zt, .slice qa zl.length qc, .slice pa zfv.length pc] (i * 6 + 1) wc
    clear x0 x1 x2 x3 x4 y1 y2 y3 y4 y5 f0
    generalize ((((wc.setCell ⟨g, i * 6 + 1, none⟩ (.int .i64 zk)).setCell ⟨g, i * 6 + 2, none⟩ (.int .i64 zn)).setCell ⟨g, i * 6 + 3, none⟩ (.string zt)).setCell ⟨g, i * 6 + 4, none⟩ (.slice qa zl.length qc)).setCell ⟨g, i * 6 + 5, none⟩ (.slice pa zfv.length pc) = w7 at *
    have D7 := hid (show Below w.heap.size w w7 from ⟨hgr.out.os.trans D6.out.os, hgr.out.tape.trans D6.out.tape, hgr.out.output.trans D6.out.output, Nat.le_trans D6.out.size hgr.out.size, fun k hk => (hgr.out.block k (Nat.lt_of_lt_of_le hk D6.out.size) (fun e => by injection e with e; have := hgl.out.1; have := hw2.out; omega)).trans (D6.out.block k hk)⟩)
    have p7 := hid ((hgr.out.block _ (lt_of_block n2.out) (fun e => by injection e with e; have := hgl.out.1; have := hw2.out; omega)).trans n2.out)
    have hg7s := hid (Nat.lt_of_lt_of_le hgc.out hgr.out.size)
    have c0 := box_at (j := 0) p7.out rfl
    have c1 := box_at (j := 1) p7.out rfl
    have c2 := box_at (j := 2) p7.out rfl
    have c3 := box_at (j := 3) p7.out rfl
    have c4 := box_at (j := 4) p7.out rfl
    have f0 := box_free p7.out
    go_wp2_with fail
    clear c0 c1 c2 c3 c4
    clear f0
    have hbz := hid (set5_below D7.out (Nat.le_add_right w.heap.size 2) (.int .i64 6) (.int .i64 0) (.string ⟨#[]⟩) (.slice none 0 0) (.slice (some ⟨g, 0, none⟩) N cap))
    have rz := hid (set5_box (u0 := .int .i64 6) (u1 := .int .i64 0) (u2 := .string ⟨#[]⟩) (u3 := .slice none 0 0) (u4 := .slice (some ⟨g, 0, none⟩) N cap) p7.out)
    have hkp := hid (fun b (hb : b ≠ w.heap.size + 2) => set5_other w7 (w.heap.size + 2) (.int .i64 6) (.int .i64 0) (.string ⟨#[]⟩) (.slice none 0 0) (.slice (some ⟨g, 0, none⟩) N cap) (b := b) hb)
    have hsz9 := hid (set5_size w7 (w.heap.size + 2) (.int .i64 6) (.int .i64 0) (.string ⟨#[]⟩) (.slice none 0 0) (.slice (some ⟨g, 0, none⟩) N cap))
    unfold set5 at hbz rz hkp hsz9
    generalize ((((w7.setCell ⟨w.heap.size + 2, 0, none⟩ (.int .i64 6)).setCell ⟨w.heap.size + 2, 1, none⟩ (.int .i64 0)).setCell ⟨w.heap.size + 2, 2, none⟩ (.string ⟨#[]⟩)).setCell ⟨w.heap.size + 2, 3, none⟩ (.slice none 0 0)).setCell ⟨w.heap.size + 2, 4, none⟩ (.slice (some ⟨g, 0, none⟩) N cap) = w9 at *
    have z0 := box_at (j := 0) rz.out rfl
    have z1 := box_at (j := 1) rz.out rfl
    have z2 := box_at (j := 2) rz.out rfl
    have z3 := box_at (j := 3) rz.out rfl
    have z4 := box_at (j := 4) rz.out rfl
    refine ⟨rfl, _, by simp [results, Tryz.results44, go_sem, z0, z1, z2, z3, z4] <;> exact ⟨rfl, rfl⟩, [.int .i64 6, .int .i64 0, .string ⟨#[]⟩, .slice none 0 0, .slice (some ⟨g, 0, none⟩) N cap], rfl, hbz.out, ?_⟩
    rw [show rv = docL FN (FV.set i (.mk zk zn zt zl zfn zfv)) from hrv2.out]
    refine doc_set (A := A) (own_keep' (w := w7) hput.out (fun k' hk' => ?_)) hCSl.out hFNl.out hFVl.out hiN hFNs.out hssz.out (hall9.out w9 hbz.out) (hrx.out.keep (fun c h => h.imp id (fun h => ⟨by have := h.1; have := D5.out.size; omega, by rw [hsz9.out]; exact Nat.lt_of_lt_of_le h.2 hgr.out.size⟩)) (fun b hb => ?_)) (.inr ⟨by have := hgl.out.1; have := hw2.out; omega, by rw [hsz9.out]; exact hg7s.out⟩) (by have := hNl.out; omega)
    ·obtain rfl : g = k' := by injection hk' with hk'
     exact hkp.out g (by have := hgl.out.1; have := hw2.out; omega)
    ·have hbg : b ≠ g := by
      rcases hb with hb | hb
      ·have := hSw.out b hb; have := hgl.out.1; have := hw2.out; omega
      ·have := hb.1; have := hgl.out.2; omega
     have hbw : b ≠ w.heap.size + 2 := by
      rcases hb with hb | hb
      ·have := hSw.out b hb; omega
      ·have := hb.1; have := hgl.out; have := hw2.out; omega
     have hbc : b < wc.heap.size := by
      rcases hb with hb | hb
      ·have := hSw.out b hb; have := D6.out.size; omega
      ·exact hb.2
     exact (hkp.out b hbw).trans (hgr.out.block b hbc (fun e => hbg (by injection e)))
end Go.Proofs.YthjihdpleclejaaGreatDoor
