/-
  Walk: Push's closure. No condition.
-/
import Derived.Test.YthjihdpleclejaaGreatDoorMgPth30
namespace Go.Proofs.YthjihdpleclejaaGreatDoor
open Go.RowKit Go.Proofs
def PushS (A bx : Nat) (L x0 x1 x2 x3 x4 : Value) (x : World) : Prop := x.cell? ⟨A, 3, none⟩ = some L ∧ x.cell? ⟨bx, 0, none⟩ = some x0 ∧ x.cell? ⟨bx, 1, none⟩ = some x1 ∧ x.cell? ⟨bx, 2, none⟩ = some x2 ∧ x.cell? ⟨bx, 3, none⟩ = some x3 ∧ x.cell? ⟨bx, 4, none⟩ = some x4
theorem toPush_kind {x y : PVal} (h : y.k ≠ 5) : toPush x y = ⟨zeroP, false, 7⟩ := by unfold toPush; rw [if_pos h]
theorem toPush_list {x y : PVal} (h : y.k = 5) : toPush x y = ⟨listV (y.l ++ [x]), false, 0⟩ := by unfold toPush; rw [if_neg (by simp [h])]
theorem own_push_read {w0 w8 w9 : World} {S : Nat → Prop} {A e g : Nat} {xs : List PVal} {v : Value} (h : OwnG (fun (_ : World) (_ : Nat → Prop) (x : PVal) (cs : List Value) => Rd w0 S x cs) 5 A 0 e w8 xs v) (hk : ∀ b, b ≠ g → w9.heap[b]? = w8.heap[b]?) (hsz : w9.heap.size = w8.heap.size) (hg : g < A) (hS : ∀ c, S c → w9.heap[c]? = w0.heap[c]?) (hA : w0.heap.size ≤ A) (hn : xs.length ≤ 1759218604441) : RdL w9 (fun c => S c ∨ From w0.heap.size w9 c) xs v := by
 have hlt := h.lt
 obtain ⟨css, h1, h2, h3⟩ := h
 have ho : w9.ownsRow A e 5 v xs.length css.flatten := by
  refine ⟨h2.1, ?_⟩
  rcases h2.2 with hn | ⟨g', cap, cur, rfl, hB, hg', rest⟩
  ·exact .inl hn
  ·exact .inr ⟨g', cap, cur, rfl, hB, (hk g' (by omega)).trans hg', rest⟩
 exact own_readL h1 ho (fun i x cs hx hc => (h3 i x cs hx hc).keep (fun c h => .inl h) (fun c h => hS c h)) (fun b hb => .inr ⟨by have := (hlt b hb).1; omega, by rw [hsz]; exact (hlt b hb).2⟩) hn
set_option maxRecDepth 100000 in
set_option maxHeartbeats 4000000 in
theorem push1_calls {S : Nat → Prop} {w : World} {x y : PVal} {b : Bool} {bx : Nat} {cs xs : List Value} (hS : ∀ c, S c → c < w.heap.size) (hm : y.mass ≤ 1000000000000) (hy : Rd w S y cs) (hx : Rd w S x xs) (hb : w.heap[bx]? = some (.cells xs.toArray 25 (0, 0))) :
  Calls Tryz.prog 25 #[.agg cs.toArray, .bool b, .pointer (some ⟨bx, 0, none⟩)] w (Told S (toPush x y) w) := by
 have hRel : RowRel (fun (_ : World) (_ : Nat → Prop) (x : PVal) (cs : List Value) => Rd w S x cs) 5 := ⟨fun _ _ h => h, fun h => h.one, fun h => h.len⟩
 obtain ⟨i0, hi, hz0, hz1, hz2⟩ := info_parts info52
 have hlm := hid (show y.l.length ≤ 1000000000000 from by have h1 := len_massL y.l; have h2 := mass_l y; omega)
 have hT7 : Hid (y.k ≠ 5 → toPush x y = ⟨zeroP, false, 7⟩) := fun h => toPush_kind h
 have hT0 : Hid (y.k = 5 → toPush x y = ⟨listV (y.l ++ [x]), false, 0⟩) := fun h => toPush_list h
 obtain ⟨TR, hTR⟩ : ∃ R, R = toPush x y := ⟨_, rfl⟩
 rw [← hTR] at hT7 hT0 ⊢
 unfold Told
 clear hTR hm
 obtain ⟨k, n, str, l, fn, fv⟩ := y
 simp only [PVal.k, PVal.l] at hT7 hT0 hlm
 obtain ⟨la, lc, fa, fc, rfl, _, _, _, _, _, _, _, hLr, _⟩ := hy.inv
 obtain ⟨css, hcl, hlie, hln, hce⟩ := rdL_lie hS hLr
 obtain ⟨X0, hX0⟩ : ∃ X0, X0 = x := ⟨_, rfl⟩
 rw [← hX0] at hT0 hx
 obtain ⟨xk, xn, xt, xl, xfn, xfv⟩ := x
 obtain ⟨ya, yc, za, zc, hxs, _⟩ := (hX0 ▸ hx).inv
 subst hxs
 replace hx := hid hx
 have hS0 := hid hS
 have hcl9 := hid (fun w' (h : Below w.heap.size w w') => cloneV_calls (c := lc) (hlie.later h) hln (by rw [hcl]; exact hlm.out))
 rw [hcl] at hcl9
 replace hcl := hid hcl
 replace hce := hid hce
 clear hy hS hX0 hlie hln hLr
 obtain ⟨W0, hW0⟩ : ∃ W0, W0 = (w.alloc (.cells #[.int .i64 k, .int .i64 n, .string str, .slice la l.length lc, .slice fa fv.length fc] 25)).alloc (.cells #[.int .i64 0, .int .i64 0, .string ⟨#[]⟩, .slice none 0 0, .slice none 0 0] 25) := ⟨_, rfl⟩
 have D : Hid (Below w.heap.size w W0) := by show Below _ _ _; rw [hW0]; exact (below_new _ _).step (below_new _ _)
 have r3 : Hid (W0.heap[w.heap.size]? = some (.cells #[.int .i64 k, .int .i64 n, .string str, .slice la l.length lc, .slice fa fv.length fc] 25 (0, 0))) := by show _ = _; rw [hW0]; exact al_old (al_at rfl)
 have r5 : Hid (W0.heap[w.heap.size + 1]? = some (.cells #[.int .i64 0, .int .i64 0, .string ⟨#[]⟩, .slice none 0 0, .slice none 0 0] 25 (0, 0))) := by show _ = _; rw [hW0]; exact al_at (by simp)
 have rx : Hid (W0.heap[bx]? = some (.cells #[.int .i64 xk, .int .i64 xn, .string xt, .slice ya xl.length yc, .slice za xfv.length zc] 25 (0, 0))) := (D.out.block _ (lt_of_block hb)).trans hb
 go_enter Tryz.func25, Tryz.ntmps25
 go_upto_region 1 with fail
 rw [← hW0]
 clear hW0 hb
 have k0 := box_at (j := 0) r3.out rfl
 by_cases hk : k = 5
 ·have hki : (k != 5) = false := by simp [hk]
  have hR := hT0.out hk
  subst hR
  clear hk hT7 hT0
  go_upto_region 3 with fail
  clear k0 hki
  have hSS : Hid (∀ x : World, (∀ b, b < W0.heap.size → x.heap[b]? = W0.heap[b]?) → PushS w.heap.size bx (.slice la l.length lc) (.int .i64 xk) (.int .i64 xn) (.string xt) (.slice ya xl.length yc) (.slice za xfv.length zc) x) := fun x h => by
   have h1 := (h _ (lt_of_block r3.out)).trans r3.out
   have h2 := (h _ (lt_of_block rx.out)).trans rx.out
   exact ⟨box_at h1 rfl, box_at h2 rfl, box_at h2 rfl, box_at h2 rfl, box_at h2 rfl, box_at h2 rfl⟩
  have hsW : Hid (w.heap.size + 1 < W0.heap.size) := lt_of_block r5.out
  refine wp_region_T (PushS w.heap.size bx (.slice la l.length lc) (.int .i64 xk) (.int .i64 xn) (.string xt) (.slice ya xl.length yc) (.slice za xfv.length zc)) 7 (by kernel_rfl) ?_
  have hq0 := hSS.out W0.drew (fun _ _ => rfl)
  ((refine wpAnyT_take (i := 0) (v := ?_) rfl (by kernel_rfl) (by kernel_rfl) (by kernel_rfl) (by kernel_rfl) (by exact fun _ _ _ h => h) (Or.inl ⟨by kernel_rfl, ?_⟩) hq0 ?_; rotate_left 1; focus (intro w hSw; unfold PushS at hSw; (try dsimp only at hSw); go_simp; try with_reducible rfl); (try simp only [List.getElem_toArray, List.getElem_cons_zero, List.getElem_cons_succ, Act.put, List.setIfInBounds_toArray, List.set_cons_zero, List.set_cons_succ])); (refine wpAnyT_take (i := 1) (v := ?_) rfl (by kernel_rfl) (by kernel_rfl) (by kernel_rfl) (by kernel_rfl) (by exact fun _ _ _ h => h) (Or.inl ⟨by kernel_rfl, ?_⟩) hq0 ?_; rotate_left 1; focus (intro w hSw; unfold PushS at hSw; (try dsimp only at hSw); go_simp; try with_reducible rfl); (try simp only [List.getElem_toArray, List.getElem_cons_zero, List.getElem_cons_succ, Act.put, List.setIfInBounds_toArray, List.set_cons_zero, List.set_cons_succ])); (refine wpAnyT_take (i := 3) (v := ?_) rfl (by kernel_rfl) (by kernel_rfl) (by kernel_rfl) (by kernel_rfl) (by exact fun _ _ _ h => h) (Or.inl ⟨by kernel_rfl, ?_⟩) hq0 ?_; rotate_left 1; focus (intro w hSw; unfold PushS at hSw; (try dsimp only at hSw); go_simp; try with_reducible rfl); (try simp only [List.getElem_toArray, List.getElem_cons_zero, List.getElem_cons_succ, Act.put, List.setIfInBounds_toArray, List.set_cons_zero, List.set_cons_succ])))
  refine wpAnyT_two (i := 2) (j := 4) (by kernel_rfl) rfl rfl (fun K hK => ?_) (fun K hK => ?_)
  ·go_simp
   refine (hcl9.out _ D.out.drew).mono ?_
   rintro e w4 ⟨v1, rfl, h4, hown⟩
   have E := hid ((Below.refl W0.heap.size W0).drew.step h4)
   have hown0 : w4.ownsRow W0.heap.size 25 5 v1 l.length css.flatten := hown
   have hG4 : OwnG (fun (_ : World) (_ : Nat → Prop) (x : PVal) (cs : List Value) => Rd w S x cs) 5 W0.heap.size 0 25 w4 l v1 := ⟨css, hcl.out, hown0, fun i x cs hx hc => hce.out i x cs hx hc⟩
   clear h4 hown hown0
   (refine hK.out _ _ (fun _ => hSS.out w4 E.out.block) (fun _ => ?_); clear hK K; (try simp only [Act.put, List.setIfInBounds_toArray, List.set_cons_zero, List.set_cons_succ]))
   refine wpAnyT_one (i := 4) (by kernel_rfl) rfl (fun K hK => ?_)
   go_simp
   have E5 := hid (E.out.step (below_new w4 (.cells #[.int .i64 xk, .int .i64 xn, .string xt, .slice ya xl.length yc, .slice za xfv.length zc] 25)))
   have hG5 := hid (hG4.keep hRel (below_new w4 (.cells #[.int .i64 xk, .int .i64 xn, .string xt, .slice ya xl.length yc, .slice za xfv.length zc] 25)).size (fun b hb => (below_new w4 (.cells #[.int .i64 xk, .int .i64 xn, .string xt, .slice ya xl.length yc, .slice za xfv.length zc] 25)).block b (hG4.lt b hb).2) (fun b hb => (below_new w4 (.cells #[.int .i64 xk, .int .i64 xn, .string xt, .slice ya xl.length yc, .slice za xfv.length zc] 25)).block b hb.2.1))
   clear hG4
   (refine hK.out _ _ (fun _ => hSS.out _ E5.out.block) (fun _ => ?_); clear hK K; (try simp only [Act.put, List.setIfInBounds_toArray, List.set_cons_zero, List.set_cons_succ]))
   refine wpAnyT_one (i := 5) (by kernel_rfl) rfl (fun K hK => ?_)
   refine step_append_g hRel _ rfl _ _ 22 rfl W0.heap.size 0 25 80 i0 _ Tryz.underlying22 hi hz0 hz1 hz2 rfl (by decide) l _ rfl hG5.out ⟨w4.heap.size, 0, none⟩ 1 [.int .i64 xk, .int .i64 xn, .string xt, .slice ya xl.length yc, .slice za xfv.length zc] X0 rfl (cells_new _ _ rfl _ _) hx.out (by have := hlm.out; omega) (by have := hlm.out; unfold maxLen; omega) E5.out.size ?_
   intro v8 w8 hown8 hg8 hlow8 hst8
   have hg9 : World.grownBy _ w8 v1.ownBlock := hg8
   have hB8 := hid (E5.out.trans ((grown_from hG5.out hg9 E5.out.size).mono (Nat.le_refl _)))
   clear hg9
   obtain ⟨a8, c8, hv8, hc8⟩ := hown8.form
   rw [List.length_append, List.length_singleton] at hv8 hc8
   subst hv8
   clear hlow8 hst8 hg8
   (refine hK.out _ _ (fun _ => hSS.out w8 hB8.out.block) (fun _ => ?_); clear hK K; (try simp only [Act.put, List.setIfInBounds_toArray]))
   refine wpAnyT_one (i := 6) (by kernel_rfl) rfl (fun K hK => ?_)
   go_simp
   (refine hK.out _ _ (fun _ => hSS.out w8 hB8.out.block) (fun _ => ?_); clear hK K; (try simp only [Act.put, List.setIfInBounds_toArray, List.set_cons_zero, List.set_cons_succ]))
   have q5 := hid ((hB8.out.block _ hsW.out).trans r5.out)
   have c0 := box_at (j := 0) q5.out rfl
   have c1 := box_at (j := 1) q5.out rfl
   have c2 := box_at (j := 2) q5.out rfl
   have c3 := box_at (j := 3) q5.out rfl
   have c4 := box_at (j := 4) q5.out rfl
   have f0 := box_free q5.out
   refine wpAnyT_one (i := 7) (by kernel_rfl) rfl (fun K hK => ?_)
   go_simp
   (refine hK.out _ _ (fun h => absurd h (by decide)) (fun _ => ?_); clear hK K; (try simp only [Act.put, List.setIfInBounds_toArray]))
   clear c0 c1 c2 c3 c4 f0
   refine wpAnyT_one (i := 8) (by kernel_rfl) rfl (fun K hK => ?_)
   go_simp
   (refine hK.out _ _ (fun h => absurd h (by decide)) (fun _ => ?_); clear hK K; (try simp only [Act.put, List.setIfInBounds_toArray, List.set_cons_zero, List.set_cons_succ]))
   refine wpAnyT_one (i := 9) (by kernel_rfl) rfl (fun K hK => ?_)
   go_simp
   (refine hK.out _ _ (fun h => absurd h (by decide)) (fun _ => ?_); clear hK K; (try simp only [Act.put, List.setIfInBounds_toArray, List.set_cons_zero, List.set_cons_succ]))
   refine wpAnyT_done (by kernel_rfl) ?_ _
   have D8 := hid (D.out.step hB8.out)
   have hbz := hid (set5_below D8.out (Nat.le_succ _) (.int .i64 5) (.int .i64 0) (.string ⟨#[]⟩) (.slice a8 (l.length + 1) c8) (.slice none 0 0))
   have rz := hid (set5_box (u0 := .int .i64 5) (u1 := .int .i64 0) (u2 := .string ⟨#[]⟩) (u3 := .slice a8 (l.length + 1) c8) (u4 := .slice none 0 0) q5.out)
   have hkp := hid (fun b (hb : b ≠ w.heap.size + 1) => set5_other w8 (w.heap.size + 1) (.int .i64 5) (.int .i64 0) (.string ⟨#[]⟩) (.slice a8 (l.length + 1) c8) (.slice none 0 0) (b := b) hb)
   have hsz9 := hid (set5_size w8 (w.heap.size + 1) (.int .i64 5) (.int .i64 0) (.string ⟨#[]⟩) (.slice a8 (l.length + 1) c8) (.slice none 0 0))
   unfold set5 at hbz rz hkp hsz9
   generalize ((((w8.setCell ⟨w.heap.size + 1, 0, none⟩ (.int .i64 5)).setCell ⟨w.heap.size + 1, 1, none⟩ (.int .i64 0)).setCell ⟨w.heap.size + 1, 2, none⟩ (.string ⟨#[]⟩)).setCell ⟨w.heap.size + 1, 3, none⟩ (.slice a8 (l.length + 1) c8)).setCell ⟨w.heap.size + 1, 4, none⟩ (.slice none 0 0) = w9 at *
   go_wp2_with fail
   have z0 := box_at (j := 0) rz.out rfl
   have z1 := box_at (j := 1) rz.out rfl
   have z2 := box_at (j := 2) rz.out rfl
   have z3 := box_at (j := 3) rz.out rfl
   have z4 := box_at (j := 4) rz.out rfl
   refine ⟨rfl, _, by simp [results, Tryz.results25, go_sem, z0, z1, z2, z3, z4] <;> exact ⟨rfl, rfl⟩, [.int .i64 5, .int .i64 0, .string ⟨#[]⟩, .slice a8 (l.length + 1) c8, .slice none 0 0], rfl, hbz.out, ?_⟩
   have hfin := own_push_read (g := w.heap.size + 1) hown8 hkp.out hsz9.out (by have := hsW.out; omega) (fun c hc => (hkp.out c (by have := hS0.out c hc; omega)).trans (D8.out.block c (hS0.out c hc))) (by have := hsW.out; omega) (by have := hlm.out; rw [List.length_append, List.length_singleton]; omega)
   exact rd_listV hfin
  ·go_simp
   obtain ⟨wg, hwg⟩ : ∃ wg, wg = W0.alloc (.cells #[.int .i64 xk, .int .i64 xn, .string xt, .slice ya xl.length yc, .slice za xfv.length zc] 25) := ⟨_, rfl⟩
   have E1 : Hid (Below W0.heap.size W0 wg) := by show Below _ _ _; rw [hwg]; exact below_new _ _
   have gz : Hid (wg.heap[W0.heap.size]? = some (.cells #[.int .i64 xk, .int .i64 xn, .string xt, .slice ya xl.length yc, .slice za xfv.length zc] 25 (0, 0))) := by show _ = _; rw [hwg]; exact heap_alloc_new _ _
   rw [← hwg]
   clear hwg
   have E2 := hid (E1.out.step (Below.refl wg.heap.size wg).drew)
   (refine hK.out _ _ (fun _ => hSS.out wg.drew E2.out.block) (fun _ => ?_); clear hK K; (try simp only [Act.put, List.setIfInBounds_toArray, List.set_cons_zero, List.set_cons_succ]))
   refine wpAnyT_one (i := 2) (by kernel_rfl) rfl (fun K hK => ?_)
   go_simp
   refine (hcl9.out wg.drew (D.out.step E2.out)).mono ?_
   rintro e w4 ⟨v1, rfl, h4, hown⟩
   have E5 := hid (E2.out.step h4)
   have gz4 := hid ((h4.block _ (lt_of_block gz.out)).trans gz.out)
   have hs4 : Hid (wg.heap.size ≤ w4.heap.size) := h4.size
   have hs1 : Hid (W0.heap.size ≤ wg.heap.size) := E1.out.size
   have hown0 : w4.ownsRow wg.heap.size 25 5 v1 l.length css.flatten := hown
   have hG5 : Hid (OwnG (fun (_ : World) (_ : Nat → Prop) (x : PVal) (cs : List Value) => Rd w S x cs) 5 wg.heap.size 0 25 w4 l v1) := ⟨css, hcl.out, hown0, fun i x cs hx hc => hce.out i x cs hx hc⟩
   clear h4 hown hown0 gz
   (refine hK.out _ _ (fun _ => hSS.out w4 E5.out.block) (fun _ => ?_); clear hK K; (try simp only [Act.put, List.setIfInBounds_toArray, List.set_cons_zero, List.set_cons_succ]))
   refine wpAnyT_one (i := 5) (by kernel_rfl) rfl (fun K hK => ?_)
   refine step_append_g hRel _ rfl _ _ 22 rfl wg.heap.size 0 25 80 i0 _ Tryz.underlying22 hi hz0 hz1 hz2 rfl (by decide) l _ rfl hG5.out ⟨W0.heap.size, 0, none⟩ 1 [.int .i64 xk, .int .i64 xn, .string xt, .slice ya xl.length yc, .slice za xfv.length zc] X0 rfl (fun j u hj => by rw [addr_at, Nat.zero_add]; exact box_at gz4.out (by simpa using hj)) hx.out (by have := hlm.out; omega) (by have := hlm.out; unfold maxLen; omega) hs4.out ?_
   intro v8 w8 hown8 hg8 hlow8 hst8
   have hg9 : World.grownBy _ w8 v1.ownBlock := hg8
   have hB8 := hid (E5.out.trans ((grown_from hG5.out hg9 hs4.out).mono hs1.out))
   clear hg9
   obtain ⟨a8, c8, hv8, hc8⟩ := hown8.form
   rw [List.length_append, List.length_singleton] at hv8 hc8
   subst hv8
   clear hlow8 hst8 hg8
   (refine hK.out _ _ (fun _ => hSS.out w8 hB8.out.block) (fun _ => ?_); clear hK K; (try simp only [Act.put, List.setIfInBounds_toArray]))
   refine wpAnyT_one (i := 6) (by kernel_rfl) rfl (fun K hK => ?_)
   go_simp
   (refine hK.out _ _ (fun _ => hSS.out w8 hB8.out.block) (fun _ => ?_); clear hK K; (try simp only [Act.put, List.setIfInBounds_toArray, List.set_cons_zero, List.set_cons_succ]))
   have q5 := hid ((hB8.out.block _ hsW.out).trans r5.out)
   have c0 := box_at (j := 0) q5.out rfl
   have c1 := box_at (j := 1) q5.out rfl
   have c2 := box_at (j := 2) q5.out rfl
   have c3 := box_at (j := 3) q5.out rfl
   have c4 := box_at (j := 4) q5.out rfl
   have f0 := box_free q5.out
   refine wpAnyT_one (i := 7) (by kernel_rfl) rfl (fun K hK => ?_)
   go_simp
   (refine hK.out _ _ (fun h => absurd h (by decide)) (fun _ => ?_); clear hK K; (try simp only [Act.put, List.setIfInBounds_toArray]))
   clear c0 c1 c2 c3 c4 f0
   refine wpAnyT_one (i := 8) (by kernel_rfl) rfl (fun K hK => ?_)
   go_simp
   (refine hK.out _ _ (fun h => absurd h (by decide)) (fun _ => ?_); clear hK K; (try simp only [Act.put, List.setIfInBounds_toArray, List.set_cons_zero, List.set_cons_succ]))
   refine wpAnyT_one (i := 9) (by kernel_rfl) rfl (fun K hK => ?_)
   go_simp
   (refine hK.out _ _ (fun h => absurd h (by decide)) (fun _ => ?_); clear hK K; (try simp only [Act.put, List.setIfInBounds_toArray, List.set_cons_zero, List.set_cons_succ]))
   refine wpAnyT_done (by kernel_rfl) ?_ _
   have D8 := hid (D.out.step hB8.out)
   have hbz := hid (set5_below D8.out (Nat.le_succ _) (.int .i64 5) (.int .i64 0) (.string ⟨#[]⟩) (.slice a8 (l.length + 1) c8) (.slice none 0 0))
   have rz := hid (set5_box (u0 := .int .i64 5) (u1 := .int .i64 0) (u2 := .string ⟨#[]⟩) (u3 := .slice a8 (l.length + 1) c8) (u4 := .slice none 0 0) q5.out)
   have hkp := hid (fun b (hb : b ≠ w.heap.size + 1) => set5_other w8 (w.heap.size + 1) (.int .i64 5) (.int .i64 0) (.string ⟨#[]⟩) (.slice a8 (l.length + 1) c8) (.slice none 0 0) (b := b) hb)
   have hsz9 := hid (set5_size w8 (w.heap.size + 1) (.int .i64 5) (.int .i64 0) (.string ⟨#[]⟩) (.slice a8 (l.length + 1) c8) (.slice none 0 0))
   unfold set5 at hbz rz hkp hsz9
   generalize ((((w8.setCell ⟨w.heap.size + 1, 0, none⟩ (.int .i64 5)).setCell ⟨w.heap.size + 1, 1, none⟩ (.int .i64 0)).setCell ⟨w.heap.size + 1, 2, none⟩ (.string ⟨#[]⟩)).setCell ⟨w.heap.size + 1, 3, none⟩ (.slice a8 (l.length + 1) c8)).setCell ⟨w.heap.size + 1, 4, none⟩ (.slice none 0 0) = w9 at *
   go_wp2_with fail
   have z0 := box_at (j := 0) rz.out rfl
   have z1 := box_at (j := 1) rz.out rfl
   have z2 := box_at (j := 2) rz.out rfl
   have z3 := box_at (j := 3) rz.out rfl
   have z4 := box_at (j := 4) rz.out rfl
   refine ⟨rfl, _, by simp [results, Tryz.results25, go_sem, z0, z1, z2, z3, z4] <;> exact ⟨rfl, rfl⟩, [.int .i64 5, .int .i64 0, .string ⟨#[]⟩, .slice a8 (l.length + 1) c8, .slice none 0 0], rfl, hbz.out, ?_⟩
   have hfin := own_push_read (g := w.heap.size + 1) hown8 hkp.out hsz9.out (by have := hsW.out; have := hs1.out; omega) (fun c hc => (hkp.out c (by have := hS0.out c hc; omega)).trans (D8.out.block c (hS0.out c hc))) (by have := hsW.out; have := hs1.out; omega) (by have := hlm.out; rw [List.length_append, List.length_singleton]; omega)
   exact rd_listV hfin
 ·have hki : (k != 5) = true := by simp [hk]
  have hR := hT7.out hk
  subst hR
  clear hT7 hT0 hk
  have c0 := box_at (j := 0) r5.out rfl
  have c1 := box_at (j := 1) r5.out rfl
  have c2 := box_at (j := 2) r5.out rfl
  have c3 := box_at (j := 3) r5.out rfl
  have c4 := box_at (j := 4) r5.out rfl
  have f0 := box_free r5.out
  go_wp2_with fail
  clear k0
  clear c0 c1 c2 c3 c4
  clear f0
  have hbz := hid (set5_below D.out (Nat.le_succ _) (.int .i64 0) (.int .i64 0) (.string ⟨#[]⟩) (.slice none 0 0) (.slice none 0 0))
  have rz := hid (set5_box (u0 := .int .i64 0) (u1 := .int .i64 0) (u2 := .string ⟨#[]⟩) (u3 := .slice none 0 0) (u4 := .slice none 0 0) r5.out)
  have hkp := hid (fun b (hb : b ≠ w.heap.size + 1) => set5_other W0 (w.heap.size + 1) (.int .i64 0) (.int .i64 0) (.string ⟨#[]⟩) (.slice none 0 0) (.slice none 0 0) (b := b) hb)
  have hsz9 := hid (set5_size W0 (w.heap.size + 1) (.int .i64 0) (.int .i64 0) (.string ⟨#[]⟩) (.slice none 0 0) (.slice none 0 0))
  unfold set5 at hbz rz hkp hsz9
  generalize ((((W0.setCell ⟨w.heap.size + 1, 0, none⟩ (.int .i64 0)).setCell ⟨w.heap.size + 1, 1, none⟩ (.int .i64 0)).setCell ⟨w.heap.size + 1, 2, none⟩ (.string ⟨#[]⟩)).setCell ⟨w.heap.size + 1, 3, none⟩ (.slice none 0 0)).setCell ⟨w.heap.size + 1, 4, none⟩ (.slice none 0 0) = w9 at *
  have z0 := box_at (j := 0) rz.out rfl
  have z1 := box_at (j := 1) rz.out rfl
  have z2 := box_at (j := 2) rz.out rfl
  have z3 := box_at (j := 3) rz.out rfl
  have z4 := box_at (j := 4) rz.out rfl
  refine ⟨rfl, _, by simp [results, Tryz.results25, go_sem, z0, z1, z2, z3, z4] <;> exact ⟨rfl, rfl⟩, [.int .i64 0, .int .i64 0, .string ⟨#[]⟩, .slice none 0 0, .slice none 0 0], rfl, hbz.out, ?_⟩
  exact rd_zeroP
end Go.Proofs.YthjihdpleclejaaGreatDoor
