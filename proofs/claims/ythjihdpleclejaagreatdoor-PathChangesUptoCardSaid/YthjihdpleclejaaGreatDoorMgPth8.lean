/-
  Walk: the document's get, by steps.
-/
import Derived.Test.YthjihdpleclejaaGreatDoorMgPth6
import Derived.Test.YthjihdpleclejaaGreatDoorMgPth3
import Derived.Test.YthjihdpleclejaaGreatDoorMgQuiet
namespace Go.Proofs.YthjihdpleclejaaGreatDoor
open Go.RowKit Go.Proofs
theorem StrsAt.head {w : World} {S : Nat → Prop} {s : ByteArray} {r : List ByteArray} {a : Option Addr} {n c : Nat} (h : StrsAt w S (s :: r) (.slice a n c)) : ∃ b off, a = some ⟨b, off, none⟩ ∧ n = r.length + 1 ∧ r.length + 1 ≤ c ∧ c ≤ 9223372036854775807 ∧ S b ∧ w.cell? ⟨b, off, none⟩ = some (.string s) := by
 obtain ⟨a', c', e, h1, h2, h3⟩ := h
 injection e with e1 e2 e3
 subst e1 e2 e3
 rcases h3 with h3 | ⟨b, off, rfl, h4, h5⟩
 ·cases h3
 ·exact ⟨b, off, rfl, rfl, h1, h2, h4, h5 0 s rfl⟩
theorem StrsAt.tail {w : World} {S : Nat → Prop} {s : ByteArray} {r : List ByteArray} {b off n c : Nat} (h : StrsAt w S (s :: r) (.slice (some ⟨b, off, none⟩) n c)) : StrsAt w S r (.slice (some ⟨b, off + 1, none⟩) r.length (c - 1)) := by
 obtain ⟨a', c', e, h1, h2, h3⟩ := h
 injection e with e1 e2 e3
 subst e1 e2 e3
 simp only [List.length_cons] at h1
 refine ⟨_, _, rfl, by omega, by omega, ?_⟩
 rcases h3 with h3 | ⟨b', off', e, h4, h5⟩
 ·cases h3
 ·injection e with e
  injection e with e1 e2
  subst e1 e2
  refine .inr ⟨b, off + 1, rfl, h4, fun j x hj => ?_⟩
  have := h5 (j + 1) x (by simpa using hj)
  rwa [show off + (j + 1) = off + 1 + j by omega] at this
theorem StrsAt.none_left {w : World} {S : Nat → Prop} {a : Option Addr} {c : Nat} (h : c ≤ 9223372036854775807) : StrsAt w S [] (.slice a 0 c) := ⟨a, c, rfl, Nat.zero_le _, h, .inl rfl⟩
theorem Rd.drew {w : World} {S : Nat → Prop} {V : PVal} {cs : List Value} (h : Rd w S V cs) : Rd w.drew S V cs := h.keep (w := w) (w' := w.drew) (fun _ h => h) (fun _ _ => rfl)
def RgS (B b o : Nat) (L v0 v1 v2 v3 v4 : Value) (x : World) : Prop := x.cell? ⟨B, 3, none⟩ = some L ∧ x.cell? ⟨b, o, none⟩ = some v0 ∧ x.cell? ⟨b, o + 1, none⟩ = some v1 ∧ x.cell? ⟨b, o + 2, none⟩ = some v2 ∧ x.cell? ⟨b, o + 3, none⟩ = some v3 ∧ x.cell? ⟨b, o + 4, none⟩ = some v4
def RhS (B sb so : Nat) (v0 v1 v2 v3 v4 : Value) (s : ByteArray) (x : World) : Prop := x.cell? ⟨B, 0, none⟩ = some v0 ∧ x.cell? ⟨B, 1, none⟩ = some v1 ∧ x.cell? ⟨B, 2, none⟩ = some v2 ∧ x.cell? ⟨B, 3, none⟩ = some v3 ∧ x.cell? ⟨B, 4, none⟩ = some v4 ∧ x.cell? ⟨sb, so, none⟩ = some (.string s)
def RiS (B : Nat) (v0 v1 v2 v3 v4 : Value) (x : World) : Prop := x.cell? ⟨B, 0, none⟩ = some v0 ∧ x.cell? ⟨B, 1, none⟩ = some v1 ∧ x.cell? ⟨B, 2, none⟩ = some v2 ∧ x.cell? ⟨B, 3, none⟩ = some v3 ∧ x.cell? ⟨B, 4, none⟩ = some v4
set_option maxRecDepth 100000 in
set_option maxHeartbeats 8000000 in
theorem rget_calls : ∀ (ss : List ByteArray) (V : PVal) (w : World) (cs : List Value) (sv : Value) (S : Nat → Prop), (∀ s ∈ ss, s.size ≤ 140737488355328) → (∀ b, S b → Now w b) → Rd w S V cs → StrsAt w (Now w) ss sv →
  Calls Tryz.prog 37 #[.agg cs.toArray, sv] w (Stepd (getP V ss) S w)
 | [], V, w, cs, sv, S, _, hS, hV, hss => by
  rw [getP_nil]
  unfold Stepd
  have hV0 := hid hV
  have hS0 := hid hS
  obtain ⟨k, n, str, l, fn, fv⟩ := V
  obtain ⟨la, lc, fa, fc, rfl, _⟩ := hV.inv
  obtain ⟨sa, sc, rfl, _⟩ := hss
  clear hV hS
  obtain ⟨W0, hW0⟩ : ∃ W0, W0 = (w.alloc (.cells #[.int .i64 k, .int .i64 n, .string str, .slice la l.length lc, .slice fa fv.length fc] 25)).alloc (.cells #[.int .i64 0, .int .i64 0, .string ⟨#[]⟩, .slice none 0 0, .slice none 0 0] 25) := ⟨_, rfl⟩
  have D : Hid (Below w.heap.size w W0) := by show Below _ _ _; rw [hW0]; exact (below_new _ _).step (below_new _ _)
  have r0 : Hid (W0.heap[w.heap.size]? = some (.cells #[.int .i64 k, .int .i64 n, .string str, .slice la l.length lc, .slice fa fv.length fc] 25 (0, 0))) := by show _ = _; rw [hW0]; exact al_old (al_at rfl)
  have r1 : Hid (W0.heap[w.heap.size + 1]? = some (.cells #[.int .i64 0, .int .i64 0, .string ⟨#[]⟩, .slice none 0 0, .slice none 0 0] 25 (0, 0))) := by show _ = _; rw [hW0]; exact al_at (by simp)
  have b0 := box_at (j := 0) r0.out rfl
  have b1 := box_at (j := 1) r0.out rfl
  have b2 := box_at (j := 2) r0.out rfl
  have b3 := box_at (j := 3) r0.out rfl
  have b4 := box_at (j := 4) r0.out rfl
  have c0 := box_at (j := 0) r1.out rfl
  have c1 := box_at (j := 1) r1.out rfl
  have c2 := box_at (j := 2) r1.out rfl
  have c3 := box_at (j := 3) r1.out rfl
  have c4 := box_at (j := 4) r1.out rfl
  have f0 := box_free r1.out
  go_enter Tryz.func37, Tryz.ntmps37
  go_upto_region 1 with fail
  rw [← hW0]
  clear hW0
  go_wp2_with fail
  clear b0 b1 b2 b3 b4
  clear c0 c1 c2 c3 c4
  clear f0
  have hbz := hid (set5_below D.out (Nat.le_succ _) (.int .i64 k) (.int .i64 n) (.string str) (.slice la l.length lc) (.slice fa fv.length fc))
  have rz := hid (set5_box (u0 := .int .i64 k) (u1 := .int .i64 n) (u2 := .string str) (u3 := .slice la l.length lc) (u4 := .slice fa fv.length fc) r1.out)
  have hkp := hid (fun b (hb : b ≠ w.heap.size + 1) => set5_other W0 (w.heap.size + 1) (.int .i64 k) (.int .i64 n) (.string str) (.slice la l.length lc) (.slice fa fv.length fc) (b := b) hb)
  have hsz9 := hid (set5_size W0 (w.heap.size + 1) (.int .i64 k) (.int .i64 n) (.string str) (.slice la l.length lc) (.slice fa fv.length fc))
  unfold set5 at hbz rz hkp hsz9
  generalize ((((W0.setCell ⟨w.heap.size + 1, 0, none⟩ (.int .i64 k)).setCell ⟨w.heap.size + 1, 1, none⟩ (.int .i64 n)).setCell ⟨w.heap.size + 1, 2, none⟩ (.string str)).setCell ⟨w.heap.size + 1, 3, none⟩ (.slice la l.length lc)).setCell ⟨w.heap.size + 1, 4, none⟩ (.slice fa fv.length fc) = w9 at *
  have z0 := box_at (j := 0) rz.out rfl
  have z1 := box_at (j := 1) rz.out rfl
  have z2 := box_at (j := 2) rz.out rfl
  have z3 := box_at (j := 3) rz.out rfl
  have z4 := box_at (j := 4) rz.out rfl
  refine ⟨rfl, _, by simp [results, Tryz.results37, go_sem, z0, z1, z2, z3, z4] <;> exact ⟨rfl, rfl⟩, [.int .i64 k, .int .i64 n, .string str, .slice la l.length lc, .slice fa fv.length fc], rfl, hbz.out, ?_⟩
  exact hV0.out.keep (fun _ h => h) (fun b hb => (hkp.out b (by have := hS0.out b hb; unfold Now at this; omega)).trans (D.out.block b (hS0.out b hb)))
 | s :: r, V, w, cs, sv, S, hsz, hS, hV, hss => by
  have ih := hid (fun V w cs sv S hS hV hs => rget_calls r V w cs sv S (fun x hx => hsz x (by simp [hx])) hS hV hs)
  have hpl := hid (fun w => rplace_calls s w (hsz s (by simp)))
  have hfd := hid (fun (w' : World) (h : Below w.heap.size w w') => rfind_calls s (w := w') (V := V) (cs := cs) (S := S) (fun b hb => Nat.lt_of_lt_of_le (hS b hb) h.size) (hV.keep (S' := S) (fun _ h => h) (fun b hb => h.block b (hS b hb))))
  obtain ⟨L, hL⟩ : ∃ L, L = leads V s := ⟨_, rfl⟩
  have hgs : getP V (s :: r) = L.bind (fun y => getP y r) := by
   rw [hL, getP]
   cases leads V s <;> rfl
  rw [hgs]
  unfold Stepd at ih hfd ⊢
  obtain ⟨R, hR⟩ : ∃ R : Option PVal, R = L.bind (fun y => getP y r) := ⟨_, rfl⟩
  rw [← hR]
  unfold leads at hL
  unfold placeZ at hpl
  unfold findV at hfd
  obtain ⟨Q, hQ⟩ : ∃ Q, Q = place s := ⟨_, rfl⟩
  rw [← hQ] at hL hpl
  replace hR := hid hR
  replace hL := hid hL
  have hV0 := hid hV
  have hS0 := hid hS
  clear hQ hgs hsz
  obtain ⟨k, n, str, l, fn, fv⟩ := V
  obtain ⟨la, lc, fa, fc, rfl, _, _, _, _, _, _, _, hLr, _⟩ := hV.inv
  replace hLr := hid hLr
  obtain ⟨sa, sc, rfl, _⟩ := id hss
  obtain ⟨sb, so, rfl, hn1, hsc1, hsc2, hsb, hsc⟩ := hss.head
  have hss0 := hid hss
  clear hV hS hss
  obtain ⟨W0, hW0⟩ : ∃ W0, W0 = (w.alloc (.cells #[.int .i64 k, .int .i64 n, .string str, .slice la l.length lc, .slice fa fv.length fc] 25)).alloc (.cells #[.int .i64 0, .int .i64 0, .string ⟨#[]⟩, .slice none 0 0, .slice none 0 0] 25) := ⟨_, rfl⟩
  have D : Hid (Below w.heap.size w W0) := by show Below _ _ _; rw [hW0]; exact (below_new _ _).step (below_new _ _)
  have r0 : Hid (W0.heap[w.heap.size]? = some (.cells #[.int .i64 k, .int .i64 n, .string str, .slice la l.length lc, .slice fa fv.length fc] 25 (0, 0))) := by show _ = _; rw [hW0]; exact al_old (al_at rfl)
  have r1 : Hid (W0.heap[w.heap.size + 1]? = some (.cells #[.int .i64 0, .int .i64 0, .string ⟨#[]⟩, .slice none 0 0, .slice none 0 0] 25 (0, 0))) := by show _ = _; rw [hW0]; exact al_at (by simp)
  have s0 := (D.out.cell (p := ⟨sb, so, none⟩) hsb).trans hsc
  replace hsc := hid hsc
  replace hsb := hid hsb
  clear hn1
  simp only [List.length_cons] at hss0 ⊢
  go_enter Tryz.func37, Tryz.ntmps37
  go_upto_region 1 with fail
  rw [← hW0]
  clear hW0
  go_wp2_with fail
  refine (hpl.out _).mono ?_
  rintro e w1 ⟨rfl, rfl⟩
  clear s0 hpl
  cases Q with
  | some m =>
   have hL2 : L = if k = 5 then l[m]? else none := hL.out
   have hmp : (0 : Int) ≤ (m : Int) := by omega
   clear hfd hL
   by_cases hk : k = 5
   ·subst hk
    rw [if_pos rfl] at hL2
    by_cases hm : m < l.length
    ·obtain ⟨x, hx⟩ : ∃ x, l[m]? = some x := ⟨_, List.getElem?_eq_getElem hm⟩
     have hmi : ¬ (l.length : Int) ≤ (m : Int) := by omega
     have hmj : (m : Int) < (l.length : Int) := by omega
     rw [hx] at hL2
     have hR2 : R = getP x r := by have := hR.out; rw [hL2] at this; exact this
     obtain ⟨b, off, cs, rfl, hSb, hcell, hrd⟩ := RdL.at_ hLr.out hx
     have hih := ih.out x
     rw [← hR2] at hih
     replace hih := hid hih
     clear hx hL2 hR2 hR ih hLr hV0
     obtain ⟨xk, xn, xt, xl, xfn, xfv⟩ := x
     obtain ⟨ya, yc, za, zc, rfl, _⟩ := hrd.inv
     have hbb := hid (hS0.out b hSb)
     obtain ⟨e0, e1, e2, e3, e4⟩ := five hcell
     have hS9 : Hid (∀ x, Below w1.heap.size w1 x → RgS w.heap.size b (off + m * 5) (.slice (some ⟨b, off, none⟩) l.length lc) (.int .i64 xk) (.int .i64 xn) (.string xt) (.slice ya xl.length yc) (.slice za xfv.length zc) x) := fun x h => by
      have hD := D.out.step h
      have hB := (h.block _ (lt_of_block r0.out)).trans r0.out
      exact ⟨box_at (j := 3) hB rfl, (hD.cell (p := ⟨b, _, none⟩) hbb.out).trans e0, (hD.cell (p := ⟨b, _, none⟩) hbb.out).trans e1, (hD.cell (p := ⟨b, _, none⟩) hbb.out).trans e2, (hD.cell (p := ⟨b, _, none⟩) hbb.out).trans e3, (hD.cell (p := ⟨b, _, none⟩) hbb.out).trans e4⟩
     have hrd1 := hid (hrd.keep (S' := S) (fun _ h => h) (fun b hb => D.out.block b (hS0.out b hb)))
     clear hcell hSb hrd e0 e1 e2 e3 e4
     have b0 := box_at (j := 0) r0.out rfl
     have b1 := box_at (j := 1) r0.out rfl
     have b2 := box_at (j := 2) r0.out rfl
     have b3 := box_at (j := 3) r0.out rfl
     have b4 := box_at (j := 4) r0.out rfl
     go_upto_region 7 with fail
     clear b0 b1 b2 b3 b4
     have hr1 : (1 : Int) ≤ (r.length : Int) + 1 := by omega
     by_cases hc1 : sc = 1
     ·subst hc1
      obtain rfl : r = [] := List.length_eq_zero_iff.1 (by omega)
      simp only [List.length_nil] at hr1
      refine wp_region_T (RgS w.heap.size b (off + m * 5) (.slice (some ⟨b, off, none⟩) l.length lc) (.int .i64 xk) (.int .i64 xn) (.string xt) (.slice ya xl.length yc) (.slice za xfv.length zc)) 10 (by kernel_rfl) ?_
      have hT0 := hS9.out _ (Below.refl w1.heap.size w1).drew
      ((refine wpAnyT_take (i := 0) (v := ?_) rfl (by kernel_rfl) (by kernel_rfl) (by kernel_rfl) (by kernel_rfl) (by exact fun _ _ _ h => h) (Or.inl ⟨by kernel_rfl, ?_⟩) hT0 ?_; rotate_left 1; focus (intro w hSw; unfold RgS at hSw; (try dsimp only at hSw); go_simp; try with_reducible rfl); (try simp only [List.getElem_toArray, List.getElem_cons_zero, List.getElem_cons_succ, Act.put, List.setIfInBounds_toArray, List.set_cons_zero, List.set_cons_succ])); (refine wpAnyT_take (i := 1) (v := ?_) rfl (by kernel_rfl) (by kernel_rfl) (by kernel_rfl) (by kernel_rfl) (by exact fun _ _ _ h => h) (Or.inl ⟨by kernel_rfl, ?_⟩) hT0 ?_; rotate_left 1; focus (intro w hSw; unfold RgS at hSw; (try dsimp only at hSw); go_simp; try with_reducible rfl); (try simp only [List.getElem_toArray, List.getElem_cons_zero, List.getElem_cons_succ, Act.put, List.setIfInBounds_toArray, List.set_cons_zero, List.set_cons_succ])); (refine wpAnyT_take (i := 2) (v := ?_) rfl (by kernel_rfl) (by kernel_rfl) (by kernel_rfl) (by kernel_rfl) (by exact fun _ _ _ h => h) (Or.inl ⟨by kernel_rfl, ?_⟩) hT0 ?_; rotate_left 1; focus (intro w hSw; unfold RgS at hSw; (try dsimp only at hSw); go_simp; try with_reducible rfl); (try simp only [List.getElem_toArray, List.getElem_cons_zero, List.getElem_cons_succ, Act.put, List.setIfInBounds_toArray, List.set_cons_zero, List.set_cons_succ])); (refine wpAnyT_take (i := 3) (v := ?_) rfl (by kernel_rfl) (by kernel_rfl) (by kernel_rfl) (by kernel_rfl) (by exact fun _ _ _ h => h) (Or.inl ⟨by kernel_rfl, ?_⟩) hT0 ?_; rotate_left 1; focus (intro w hSw; unfold RgS at hSw; (try dsimp only at hSw); go_simp; try with_reducible rfl); (try simp only [List.getElem_toArray, List.getElem_cons_zero, List.getElem_cons_succ, Act.put, List.setIfInBounds_toArray, List.set_cons_zero, List.set_cons_succ])); (refine wpAnyT_take (i := 4) (v := ?_) rfl (by kernel_rfl) (by kernel_rfl) (by kernel_rfl) (by kernel_rfl) (by exact fun _ _ _ h => h) (Or.inl ⟨by kernel_rfl, ?_⟩) hT0 ?_; rotate_left 1; focus (intro w hSw; unfold RgS at hSw; (try dsimp only at hSw); go_simp; try with_reducible rfl); (try simp only [List.getElem_toArray, List.getElem_cons_zero, List.getElem_cons_succ, Act.put, List.setIfInBounds_toArray, List.set_cons_zero, List.set_cons_succ])); (refine wpAnyT_take (i := 5) (v := ?_) rfl (by kernel_rfl) (by kernel_rfl) (by kernel_rfl) (by kernel_rfl) (by exact fun _ _ _ h => h) (Or.inl ⟨by kernel_rfl, ?_⟩) hT0 ?_; rotate_left 1; focus (intro w hSw; unfold RgS at hSw; (try dsimp only at hSw); go_simp; try with_reducible rfl); (try simp only [List.getElem_toArray, List.getElem_cons_zero, List.getElem_cons_succ, Act.put, List.setIfInBounds_toArray, List.set_cons_zero, List.set_cons_succ])); (refine wpAnyT_take (i := 6) (v := ?_) rfl (by kernel_rfl) (by kernel_rfl) (by kernel_rfl) (by kernel_rfl) (by exact fun _ _ _ h => h) (Or.inl ⟨by kernel_rfl, ?_⟩) hT0 ?_; rotate_left 1; focus (intro w hSw; unfold RgS at hSw; (try dsimp only at hSw); go_simp; try with_reducible rfl); (try simp only [List.getElem_toArray, List.getElem_cons_zero, List.getElem_cons_succ, Act.put, List.setIfInBounds_toArray, List.set_cons_zero, List.set_cons_succ])))
      refine wpAnyT_one (i := 7) (by kernel_rfl) rfl (fun K hK => ?_)
      go_simp
      refine (hih.out w1.drew _ _ S (fun b hb => Nat.lt_of_lt_of_le (hS0.out b hb) D.out.size) hrd1.out.drew (StrsAt.none_left (by omega))).mono ?_
      rintro e w4 ⟨cs4, rfl, h4, hr4⟩
      have E := hid ((Below.refl w1.heap.size w1).drew.step h4)
      clear h4 hT0 hih
      have hT1 := hS9.out _ E.out
      obtain ⟨X, hX⟩ : ∃ X, X = R.getD zeroP := ⟨_, rfl⟩
      rw [← hX] at hr4
      replace hX := hid hX
      obtain ⟨zk, zn, zt, zl, zfn, zfv⟩ := X
      obtain ⟨qa, qc, pa, pc, rfl, _⟩ := hr4.inv
      replace hr4 := hid hr4
      (refine hK.out _ _ (fun _ => hT1) (fun _ => ?_); clear hK K; (try simp only [Act.put, List.setIfInBounds_toArray, List.set_cons_zero, List.set_cons_succ]))
      ((refine wpAnyT_take (i := 8) (v := ?_) rfl (by kernel_rfl) (by kernel_rfl) (by kernel_rfl) (by kernel_rfl) (by exact fun _ _ _ h => h) (Or.inl ⟨by kernel_rfl, ?_⟩) hT1 ?_; rotate_left 1; focus (intro w hSw; unfold RgS at hSw; (try dsimp only at hSw); go_simp; try with_reducible rfl); (try simp only [List.getElem_toArray, List.getElem_cons_zero, List.getElem_cons_succ, Act.put, List.setIfInBounds_toArray, List.set_cons_zero, List.set_cons_succ])); (refine wpAnyT_take (i := 9) (v := ?_) rfl (by kernel_rfl) (by kernel_rfl) (by kernel_rfl) (by kernel_rfl) (by exact fun _ _ _ h => h) (Or.inl ⟨by kernel_rfl, ?_⟩) hT1 ?_; rotate_left 1; focus (intro w hSw; unfold RgS at hSw; (try dsimp only at hSw); go_simp; try with_reducible rfl); (try simp only [List.getElem_toArray, List.getElem_cons_zero, List.getElem_cons_succ, Act.put, List.setIfInBounds_toArray, List.set_cons_zero, List.set_cons_succ])))
      have q1 := hid ((E.out.block _ (lt_of_block r1.out)).trans r1.out)
      have c0 := box_at (j := 0) q1.out rfl
      have c1 := box_at (j := 1) q1.out rfl
      have c2 := box_at (j := 2) q1.out rfl
      have c3 := box_at (j := 3) q1.out rfl
      have c4 := box_at (j := 4) q1.out rfl
      have f0 := box_free q1.out
      refine wpAnyT_one (i := 10) (by kernel_rfl) rfl (fun K hK => ?_)
      go_simp
      (refine hK.out _ _ (fun h => absurd h (by decide)) (fun _ => ?_); clear hK K; (try simp only [Act.put, List.setIfInBounds_toArray]))
      refine wpAnyT_one (i := 11) (by kernel_rfl) rfl (fun K hK => ?_)
      go_simp
      (refine hK.out _ _ (fun h => absurd h (by decide)) (fun _ => ?_); clear hK K; (try simp only [Act.put, List.setIfInBounds_toArray, List.set_cons_zero, List.set_cons_succ]))
      refine wpAnyT_done (by kernel_rfl) ?_ _
      clear c0 c1 c2 c3 c4
      clear f0 hT1
      have DE := hid (D.out.step E.out)
      have hbz := hid (set5_below DE.out (Nat.le_succ _) (.int .i64 zk) (.int .i64 zn) (.string zt) (.slice qa zl.length qc) (.slice pa zfv.length pc))
      have rz := hid (set5_box (u0 := .int .i64 zk) (u1 := .int .i64 zn) (u2 := .string zt) (u3 := .slice qa zl.length qc) (u4 := .slice pa zfv.length pc) q1.out)
      have hkp := hid (fun b (hb : b ≠ w.heap.size + 1) => set5_other w4 (w.heap.size + 1) (.int .i64 zk) (.int .i64 zn) (.string zt) (.slice qa zl.length qc) (.slice pa zfv.length pc) (b := b) hb)
      have hsz9 := hid (set5_size w4 (w.heap.size + 1) (.int .i64 zk) (.int .i64 zn) (.string zt) (.slice qa zl.length qc) (.slice pa zfv.length pc))
      unfold set5 at hbz rz hkp hsz9
      generalize ((((w4.setCell ⟨w.heap.size + 1, 0, none⟩ (.int .i64 zk)).setCell ⟨w.heap.size + 1, 1, none⟩ (.int .i64 zn)).setCell ⟨w.heap.size + 1, 2, none⟩ (.string zt)).setCell ⟨w.heap.size + 1, 3, none⟩ (.slice qa zl.length qc)).setCell ⟨w.heap.size + 1, 4, none⟩ (.slice pa zfv.length pc) = w9 at *
      go_wp2_with fail
      have z0 := box_at (j := 0) rz.out rfl
      have z1 := box_at (j := 1) rz.out rfl
      have z2 := box_at (j := 2) rz.out rfl
      have z3 := box_at (j := 3) rz.out rfl
      have z4 := box_at (j := 4) rz.out rfl
      refine ⟨rfl, _, by simp [results, Tryz.results37, go_sem, z0, z1, z2, z3, z4] <;> exact ⟨rfl, rfl⟩, [.int .i64 zk, .int .i64 zn, .string zt, .slice qa zl.length qc, .slice pa zfv.length pc], rfl, hbz.out, ?_⟩
      rw [← hX.out]
      exact hr4.out.keep (fun _ h => h) (fun b hb => hkp.out b (by have := hS0.out b hb; unfold Now at this; omega))
     ·refine wp_region_T (RgS w.heap.size b (off + m * 5) (.slice (some ⟨b, off, none⟩) l.length lc) (.int .i64 xk) (.int .i64 xn) (.string xt) (.slice ya xl.length yc) (.slice za xfv.length zc)) 10 (by kernel_rfl) ?_
      have hT0 := hS9.out _ (Below.refl w1.heap.size w1).drew
      ((refine wpAnyT_take (i := 0) (v := ?_) rfl (by kernel_rfl) (by kernel_rfl) (by kernel_rfl) (by kernel_rfl) (by exact fun _ _ _ h => h) (Or.inl ⟨by kernel_rfl, ?_⟩) hT0 ?_; rotate_left 1; focus (intro w hSw; unfold RgS at hSw; (try dsimp only at hSw); go_simp; try with_reducible rfl); (try simp only [List.getElem_toArray, List.getElem_cons_zero, List.getElem_cons_succ, Act.put, List.setIfInBounds_toArray, List.set_cons_zero, List.set_cons_succ])); (refine wpAnyT_take (i := 1) (v := ?_) rfl (by kernel_rfl) (by kernel_rfl) (by kernel_rfl) (by kernel_rfl) (by exact fun _ _ _ h => h) (Or.inl ⟨by kernel_rfl, ?_⟩) hT0 ?_; rotate_left 1; focus (intro w hSw; unfold RgS at hSw; (try dsimp only at hSw); go_simp; try with_reducible rfl); (try simp only [List.getElem_toArray, List.getElem_cons_zero, List.getElem_cons_succ, Act.put, List.setIfInBounds_toArray, List.set_cons_zero, List.set_cons_succ])); (refine wpAnyT_take (i := 2) (v := ?_) rfl (by kernel_rfl) (by kernel_rfl) (by kernel_rfl) (by kernel_rfl) (by exact fun _ _ _ h => h) (Or.inl ⟨by kernel_rfl, ?_⟩) hT0 ?_; rotate_left 1; focus (intro w hSw; unfold RgS at hSw; (try dsimp only at hSw); go_simp; try with_reducible rfl); (try simp only [List.getElem_toArray, List.getElem_cons_zero, List.getElem_cons_succ, Act.put, List.setIfInBounds_toArray, List.set_cons_zero, List.set_cons_succ])); (refine wpAnyT_take (i := 3) (v := ?_) rfl (by kernel_rfl) (by kernel_rfl) (by kernel_rfl) (by kernel_rfl) (by exact fun _ _ _ h => h) (Or.inl ⟨by kernel_rfl, ?_⟩) hT0 ?_; rotate_left 1; focus (intro w hSw; unfold RgS at hSw; (try dsimp only at hSw); go_simp; try with_reducible rfl); (try simp only [List.getElem_toArray, List.getElem_cons_zero, List.getElem_cons_succ, Act.put, List.setIfInBounds_toArray, List.set_cons_zero, List.set_cons_succ])); (refine wpAnyT_take (i := 4) (v := ?_) rfl (by kernel_rfl) (by kernel_rfl) (by kernel_rfl) (by kernel_rfl) (by exact fun _ _ _ h => h) (Or.inl ⟨by kernel_rfl, ?_⟩) hT0 ?_; rotate_left 1; focus (intro w hSw; unfold RgS at hSw; (try dsimp only at hSw); go_simp; try with_reducible rfl); (try simp only [List.getElem_toArray, List.getElem_cons_zero, List.getElem_cons_succ, Act.put, List.setIfInBounds_toArray, List.set_cons_zero, List.set_cons_succ])); (refine wpAnyT_take (i := 5) (v := ?_) rfl (by kernel_rfl) (by kernel_rfl) (by kernel_rfl) (by kernel_rfl) (by exact fun _ _ _ h => h) (Or.inl ⟨by kernel_rfl, ?_⟩) hT0 ?_; rotate_left 1; focus (intro w hSw; unfold RgS at hSw; (try dsimp only at hSw); go_simp; try with_reducible rfl); (try simp only [List.getElem_toArray, List.getElem_cons_zero, List.getElem_cons_succ, Act.put, List.setIfInBounds_toArray, List.set_cons_zero, List.set_cons_succ])); (refine wpAnyT_take (i := 6) (v := ?_) rfl (by kernel_rfl) (by kernel_rfl) (by kernel_rfl) (by kernel_rfl) (by exact fun _ _ _ h => h) (Or.inl ⟨by kernel_rfl, ?_⟩) hT0 ?_; rotate_left 1; focus (intro w hSw; unfold RgS at hSw; (try dsimp only at hSw); go_simp; try with_reducible rfl); (try simp only [List.getElem_toArray, List.getElem_cons_zero, List.getElem_cons_succ, Act.put, List.setIfInBounds_toArray, List.set_cons_zero, List.set_cons_succ])))
      refine wpAnyT_one (i := 7) (by kernel_rfl) rfl (fun K hK => ?_)
      go_simp
      refine (hih.out w1.drew _ _ S (fun b hb => Nat.lt_of_lt_of_le (hS0.out b hb) D.out.size) hrd1.out.drew (hss0.out.tail.later (D.out.trans ((Below.refl w1.heap.size w1).drew.mono D.out.size)))).mono ?_
      rintro e w4 ⟨cs4, rfl, h4, hr4⟩
      have E := hid ((Below.refl w1.heap.size w1).drew.step h4)
      clear h4 hT0 hih
      have hT1 := hS9.out _ E.out
      obtain ⟨X, hX⟩ : ∃ X, X = R.getD zeroP := ⟨_, rfl⟩
      rw [← hX] at hr4
      replace hX := hid hX
      obtain ⟨zk, zn, zt, zl, zfn, zfv⟩ := X
      obtain ⟨qa, qc, pa, pc, rfl, _⟩ := hr4.inv
      replace hr4 := hid hr4
      (refine hK.out _ _ (fun _ => hT1) (fun _ => ?_); clear hK K; (try simp only [Act.put, List.setIfInBounds_toArray, List.set_cons_zero, List.set_cons_succ]))
      ((refine wpAnyT_take (i := 8) (v := ?_) rfl (by kernel_rfl) (by kernel_rfl) (by kernel_rfl) (by kernel_rfl) (by exact fun _ _ _ h => h) (Or.inl ⟨by kernel_rfl, ?_⟩) hT1 ?_; rotate_left 1; focus (intro w hSw; unfold RgS at hSw; (try dsimp only at hSw); go_simp; try with_reducible rfl); (try simp only [List.getElem_toArray, List.getElem_cons_zero, List.getElem_cons_succ, Act.put, List.setIfInBounds_toArray, List.set_cons_zero, List.set_cons_succ])); (refine wpAnyT_take (i := 9) (v := ?_) rfl (by kernel_rfl) (by kernel_rfl) (by kernel_rfl) (by kernel_rfl) (by exact fun _ _ _ h => h) (Or.inl ⟨by kernel_rfl, ?_⟩) hT1 ?_; rotate_left 1; focus (intro w hSw; unfold RgS at hSw; (try dsimp only at hSw); go_simp; try with_reducible rfl); (try simp only [List.getElem_toArray, List.getElem_cons_zero, List.getElem_cons_succ, Act.put, List.setIfInBounds_toArray, List.set_cons_zero, List.set_cons_succ])))
      have q1 := hid ((E.out.block _ (lt_of_block r1.out)).trans r1.out)
      have c0 := box_at (j := 0) q1.out rfl
      have c1 := box_at (j := 1) q1.out rfl
      have c2 := box_at (j := 2) q1.out rfl
      have c3 := box_at (j := 3) q1.out rfl
      have c4 := box_at (j := 4) q1.out rfl
      have f0 := box_free q1.out
      refine wpAnyT_one (i := 10) (by kernel_rfl) rfl (fun K hK => ?_)
      go_simp
      (refine hK.out _ _ (fun h => absurd h (by decide)) (fun _ => ?_); clear hK K; (try simp only [Act.put, List.setIfInBounds_toArray]))
      refine wpAnyT_one (i := 11) (by kernel_rfl) rfl (fun K hK => ?_)
      go_simp
      (refine hK.out _ _ (fun h => absurd h (by decide)) (fun _ => ?_); clear hK K; (try simp only [Act.put, List.setIfInBounds_toArray, List.set_cons_zero, List.set_cons_succ]))
      refine wpAnyT_done (by kernel_rfl) ?_ _
      clear c0 c1 c2 c3 c4
      clear f0 hT1
      have DE := hid (D.out.step E.out)
      have hbz := hid (set5_below DE.out (Nat.le_succ _) (.int .i64 zk) (.int .i64 zn) (.string zt) (.slice qa zl.length qc) (.slice pa zfv.length pc))
      have rz := hid (set5_box (u0 := .int .i64 zk) (u1 := .int .i64 zn) (u2 := .string zt) (u3 := .slice qa zl.length qc) (u4 := .slice pa zfv.length pc) q1.out)
      have hkp := hid (fun b (hb : b ≠ w.heap.size + 1) => set5_other w4 (w.heap.size + 1) (.int .i64 zk) (.int .i64 zn) (.string zt) (.slice qa zl.length qc) (.slice pa zfv.length pc) (b := b) hb)
      have hsz9 := hid (set5_size w4 (w.heap.size + 1) (.int .i64 zk) (.int .i64 zn) (.string zt) (.slice qa zl.length qc) (.slice pa zfv.length pc))
      unfold set5 at hbz rz hkp hsz9
      generalize ((((w4.setCell ⟨w.heap.size + 1, 0, none⟩ (.int .i64 zk)).setCell ⟨w.heap.size + 1, 1, none⟩ (.int .i64 zn)).setCell ⟨w.heap.size + 1, 2, none⟩ (.string zt)).setCell ⟨w.heap.size + 1, 3, none⟩ (.slice qa zl.length qc)).setCell ⟨w.heap.size + 1, 4, none⟩ (.slice pa zfv.length pc) = w9 at *
      go_wp2_with fail
      have z0 := box_at (j := 0) rz.out rfl
      have z1 := box_at (j := 1) rz.out rfl
      have z2 := box_at (j := 2) rz.out rfl
      have z3 := box_at (j := 3) rz.out rfl
      have z4 := box_at (j := 4) rz.out rfl
      refine ⟨rfl, _, by simp [results, Tryz.results37, go_sem, z0, z1, z2, z3, z4] <;> exact ⟨rfl, rfl⟩, [.int .i64 zk, .int .i64 zn, .string zt, .slice qa zl.length qc, .slice pa zfv.length pc], rfl, hbz.out, ?_⟩
      rw [← hX.out]
      exact hr4.out.keep (fun _ h => h) (fun b hb => hkp.out b (by have := hS0.out b hb; unfold Now at this; omega))
    ·have hmi : (l.length : Int) ≤ (m : Int) := by omega
     rw [List.getElem?_eq_none (by omega)] at hL2
     have hR2 : R = none := by have := hR.out; rw [hL2] at this; exact this
     subst hR2
     clear hR hL2 ih hLr hV0 hss0
     have b0 := box_at (j := 0) r0.out rfl
     have b1 := box_at (j := 1) r0.out rfl
     have b2 := box_at (j := 2) r0.out rfl
     have b3 := box_at (j := 3) r0.out rfl
     have b4 := box_at (j := 4) r0.out rfl
     have c0 := box_at (j := 0) r1.out rfl
     have c1 := box_at (j := 1) r1.out rfl
     have c2 := box_at (j := 2) r1.out rfl
     have c3 := box_at (j := 3) r1.out rfl
     have c4 := box_at (j := 4) r1.out rfl
     have f0 := box_free r1.out
     go_wp2_with fail
     clear b0 b1 b2 b3 b4
     clear c0 c1 c2 c3 c4
     clear f0
     have hbz := hid (set5_below D.out (Nat.le_succ _) (.int .i64 0) (.int .i64 0) (.string ⟨#[]⟩) (.slice none 0 0) (.slice none 0 0))
     have rz := hid (set5_box (u0 := .int .i64 0) (u1 := .int .i64 0) (u2 := .string ⟨#[]⟩) (u3 := .slice none 0 0) (u4 := .slice none 0 0) r1.out)
     have hkp := hid (fun b (hb : b ≠ w.heap.size + 1) => set5_other w1 (w.heap.size + 1) (.int .i64 0) (.int .i64 0) (.string ⟨#[]⟩) (.slice none 0 0) (.slice none 0 0) (b := b) hb)
     have hsz9 := hid (set5_size w1 (w.heap.size + 1) (.int .i64 0) (.int .i64 0) (.string ⟨#[]⟩) (.slice none 0 0) (.slice none 0 0))
     unfold set5 at hbz rz hkp hsz9
     generalize ((((w1.setCell ⟨w.heap.size + 1, 0, none⟩ (.int .i64 0)).setCell ⟨w.heap.size + 1, 1, none⟩ (.int .i64 0)).setCell ⟨w.heap.size + 1, 2, none⟩ (.string ⟨#[]⟩)).setCell ⟨w.heap.size + 1, 3, none⟩ (.slice none 0 0)).setCell ⟨w.heap.size + 1, 4, none⟩ (.slice none 0 0) = w9 at *
     have z0 := box_at (j := 0) rz.out rfl
     have z1 := box_at (j := 1) rz.out rfl
     have z2 := box_at (j := 2) rz.out rfl
     have z3 := box_at (j := 3) rz.out rfl
     have z4 := box_at (j := 4) rz.out rfl
     refine ⟨rfl, _, by simp [results, Tryz.results37, go_sem, z0, z1, z2, z3, z4] <;> exact ⟨rfl, rfl⟩, [.int .i64 0, .int .i64 0, .string ⟨#[]⟩, .slice none 0 0, .slice none 0 0], rfl, hbz.out, ?_⟩
     exact rd_zeroP
   ·have hki : (k != 5) = true := by simp [hk]
    rw [if_neg hk] at hL2
    have hR2 : R = none := by have := hR.out; rw [hL2] at this; exact this
    subst hR2
    clear hR hL2 ih hLr hV0 hss0 hk
    have b0 := box_at (j := 0) r0.out rfl
    have b1 := box_at (j := 1) r0.out rfl
    have b2 := box_at (j := 2) r0.out rfl
    have b3 := box_at (j := 3) r0.out rfl
    have b4 := box_at (j := 4) r0.out rfl
    have c0 := box_at (j := 0) r1.out rfl
    have c1 := box_at (j := 1) r1.out rfl
    have c2 := box_at (j := 2) r1.out rfl
    have c3 := box_at (j := 3) r1.out rfl
    have c4 := box_at (j := 4) r1.out rfl
    have f0 := box_free r1.out
    go_wp2_with fail
    clear b0 b1 b2 b3 b4
    clear c0 c1 c2 c3 c4
    clear f0
    have hbz := hid (set5_below D.out (Nat.le_succ _) (.int .i64 0) (.int .i64 0) (.string ⟨#[]⟩) (.slice none 0 0) (.slice none 0 0))
    have rz := hid (set5_box (u0 := .int .i64 0) (u1 := .int .i64 0) (u2 := .string ⟨#[]⟩) (u3 := .slice none 0 0) (u4 := .slice none 0 0) r1.out)
    have hkp := hid (fun b (hb : b ≠ w.heap.size + 1) => set5_other w1 (w.heap.size + 1) (.int .i64 0) (.int .i64 0) (.string ⟨#[]⟩) (.slice none 0 0) (.slice none 0 0) (b := b) hb)
    have hsz9 := hid (set5_size w1 (w.heap.size + 1) (.int .i64 0) (.int .i64 0) (.string ⟨#[]⟩) (.slice none 0 0) (.slice none 0 0))
    unfold set5 at hbz rz hkp hsz9
    generalize ((((w1.setCell ⟨w.heap.size + 1, 0, none⟩ (.int .i64 0)).setCell ⟨w.heap.size + 1, 1, none⟩ (.int .i64 0)).setCell ⟨w.heap.size + 1, 2, none⟩ (.string ⟨#[]⟩)).setCell ⟨w.heap.size + 1, 3, none⟩ (.slice none 0 0)).setCell ⟨w.heap.size + 1, 4, none⟩ (.slice none 0 0) = w9 at *
    have z0 := box_at (j := 0) rz.out rfl
    have z1 := box_at (j := 1) rz.out rfl
    have z2 := box_at (j := 2) rz.out rfl
    have z3 := box_at (j := 3) rz.out rfl
    have z4 := box_at (j := 4) rz.out rfl
    refine ⟨rfl, _, by simp [results, Tryz.results37, go_sem, z0, z1, z2, z3, z4] <;> exact ⟨rfl, rfl⟩, [.int .i64 0, .int .i64 0, .string ⟨#[]⟩, .slice none 0 0, .slice none 0 0], rfl, hbz.out, ?_⟩
    exact rd_zeroP
  | none =>
   have hL2 : L = if k = 6 then findP s fn fv else none := hL.out
   have hfd2 : Hid (∀ w', Below w.heap.size w w' → Calls Tryz.prog 65 #[.agg #[.int .i64 k, .int .i64 n, .string str, .slice la l.length lc, .slice fa fv.length fc], .string s] w' fun e w2 => ∃ cs, e = .returned (.tuple #[.agg cs.toArray, .bool L.isSome]) ∧ Below w'.heap.size w' w2 ∧ Rd w2 S (L.getD zeroP) cs) := fun w' h => by
    have := hfd.out w' h
    rw [hL2]
    exact this
   have hmn : ¬ (0 : Int) ≤ (-1 : Int) := by omega
   clear hL hL2 hfd
   have hS9 : Hid (∀ x : World, (∀ b, b < w1.heap.size → x.heap[b]? = w1.heap[b]?) → RhS w.heap.size sb so (.int .i64 k) (.int .i64 n) (.string str) (.slice la l.length lc) (.slice fa fv.length fc) s x) := fun x h => by
    have hB := (h _ (lt_of_block r0.out)).trans r0.out
    have hc := (World.cell?_of_block (w := w1) (a := ⟨sb, so, none⟩) (h sb (Nat.lt_of_lt_of_le hsb.out D.out.size))).trans ((D.out.cell (p := ⟨sb, _, none⟩) hsb.out).trans hsc.out)
    exact ⟨box_at (j := 0) hB rfl, box_at (j := 1) hB rfl, box_at (j := 2) hB rfl, box_at (j := 3) hB rfl, box_at (j := 4) hB rfl, hc⟩
   obtain ⟨X, hX⟩ : ∃ X, X = L.getD zeroP := ⟨_, rfl⟩
   rw [← hX] at hfd2
   replace hX := hid hX
   go_upto_region 8 with fail
   go_cut [7, 8] from 40 to 47 (fun s7 s8 wx => ∃ (g : Nat) (v0 v1 v2 v3 v4 : Value), s7 = .pointer (some ⟨g, 0, none⟩) ∧ s8 = .bool L.isSome ∧ wx.heap[g]? = some (.cells #[v0, v1, v2, v3, v4] 25 (0, 0)) ∧ Rd wx S X [v0, v1, v2, v3, v4] ∧ Below w1.heap.size w1 wx)
   case first =>
    refine wp_region_T (RhS w.heap.size sb so (.int .i64 k) (.int .i64 n) (.string str) (.slice la l.length lc) (.slice fa fv.length fc) s) 10 (by kernel_rfl) ?_
    have hT0 := hS9.out w1.drew (fun _ _ => rfl)
    ((refine wpAnyT_take (i := 0) (v := ?_) rfl (by kernel_rfl) (by kernel_rfl) (by kernel_rfl) (by kernel_rfl) (by exact fun _ _ _ h => h) (Or.inl ⟨by kernel_rfl, ?_⟩) hT0 ?_; rotate_left 1; focus (intro w hSw; unfold RhS at hSw; (try dsimp only at hSw); go_simp; try with_reducible rfl); (try simp only [List.getElem_toArray, List.getElem_cons_zero, List.getElem_cons_succ, Act.put, List.setIfInBounds_toArray, List.set_cons_zero, List.set_cons_succ])); (refine wpAnyT_take (i := 1) (v := ?_) rfl (by kernel_rfl) (by kernel_rfl) (by kernel_rfl) (by kernel_rfl) (by exact fun _ _ _ h => h) (Or.inl ⟨by kernel_rfl, ?_⟩) hT0 ?_; rotate_left 1; focus (intro w hSw; unfold RhS at hSw; (try dsimp only at hSw); go_simp; try with_reducible rfl); (try simp only [List.getElem_toArray, List.getElem_cons_zero, List.getElem_cons_succ, Act.put, List.setIfInBounds_toArray, List.set_cons_zero, List.set_cons_succ])); (refine wpAnyT_take (i := 2) (v := ?_) rfl (by kernel_rfl) (by kernel_rfl) (by kernel_rfl) (by kernel_rfl) (by exact fun _ _ _ h => h) (Or.inl ⟨by kernel_rfl, ?_⟩) hT0 ?_; rotate_left 1; focus (intro w hSw; unfold RhS at hSw; (try dsimp only at hSw); go_simp; try with_reducible rfl); (try simp only [List.getElem_toArray, List.getElem_cons_zero, List.getElem_cons_succ, Act.put, List.setIfInBounds_toArray, List.set_cons_zero, List.set_cons_succ])); (refine wpAnyT_take (i := 3) (v := ?_) rfl (by kernel_rfl) (by kernel_rfl) (by kernel_rfl) (by kernel_rfl) (by exact fun _ _ _ h => h) (Or.inl ⟨by kernel_rfl, ?_⟩) hT0 ?_; rotate_left 1; focus (intro w hSw; unfold RhS at hSw; (try dsimp only at hSw); go_simp; try with_reducible rfl); (try simp only [List.getElem_toArray, List.getElem_cons_zero, List.getElem_cons_succ, Act.put, List.setIfInBounds_toArray, List.set_cons_zero, List.set_cons_succ])))
    refine wpAnyT_two (i := 4) (j := 8) (by kernel_rfl) rfl rfl (fun K hK => ?_) (fun K hK => ?_)
    ·go_simp
     refine (hfd2.out w1.drew (D.out.trans ((Below.refl w1.heap.size w1).drew.mono D.out.size))).mono ?_
     rintro e w4 ⟨cs4, rfl, h4, hr4⟩
     have E := hid ((Below.refl w1.heap.size w1).drew.step h4)
     have hT1 := hS9.out _ E.out.block
     obtain ⟨zk, zn, zt, zl, zfn, zfv⟩ := X
     obtain ⟨qa, qc, pa, pc, rfl, _⟩ := hr4.inv
     replace hr4 := hid hr4
     clear h4 hT0
     (refine hK.out _ _ (fun _ => hT1) (fun _ => ?_); clear hK K; (try simp only [Act.put, List.setIfInBounds_toArray, List.set_cons_zero, List.set_cons_succ]))
     ((refine wpAnyT_take (i := 5) (v := ?_) rfl (by kernel_rfl) (by kernel_rfl) (by kernel_rfl) (by kernel_rfl) (by exact fun _ _ _ h => h) (Or.inl ⟨by kernel_rfl, ?_⟩) hT1 ?_; rotate_left 1; focus (intro w hSw; unfold RhS at hSw; (try dsimp only at hSw); go_simp; try with_reducible rfl); (try simp only [List.getElem_toArray, List.getElem_cons_zero, List.getElem_cons_succ, Act.put, List.setIfInBounds_toArray, List.set_cons_zero, List.set_cons_succ])); (refine wpAnyT_take (i := 6) (v := ?_) rfl (by kernel_rfl) (by kernel_rfl) (by kernel_rfl) (by kernel_rfl) (by exact fun _ _ _ h => h) (Or.inl ⟨by kernel_rfl, ?_⟩) hT1 ?_; rotate_left 1; focus (intro w hSw; unfold RhS at hSw; (try dsimp only at hSw); go_simp; try with_reducible rfl); (try simp only [List.getElem_toArray, List.getElem_cons_zero, List.getElem_cons_succ, Act.put, List.setIfInBounds_toArray, List.set_cons_zero, List.set_cons_succ])); (refine wpAnyT_take (i := 7) (v := ?_) rfl (by kernel_rfl) (by kernel_rfl) (by kernel_rfl) (by kernel_rfl) (by exact fun _ _ _ h => h) (Or.inl ⟨by kernel_rfl, ?_⟩) hT1 ?_; rotate_left 1; focus (intro w hSw; unfold RhS at hSw; (try dsimp only at hSw); go_simp; try with_reducible rfl); (try simp only [List.getElem_toArray, List.getElem_cons_zero, List.getElem_cons_succ, Act.put, List.setIfInBounds_toArray, List.set_cons_zero, List.set_cons_succ])))
     refine wpAnyT_one (i := 8) (by kernel_rfl) rfl (fun K hK => ?_)
     go_simp
     have E2 := hid (E.out.step (below_new w4 (.cells #[.int .i64 0, .int .i64 0, .string ⟨#[]⟩, .slice none 0 0, .slice none 0 0] 25)))
     have hT2 := hS9.out _ E2.out.block
     clear hT1
     (refine hK.out _ _ (fun _ => hT2) (fun _ => ?_); clear hK K; (try simp only [Act.put, List.setIfInBounds_toArray, List.set_cons_zero, List.set_cons_succ]))
     refine wpAnyT_one (i := 9) (by kernel_rfl) rfl (fun K hK => ?_)
     go_simp
     have E3 := hid (E.out.step (below_new w4 (.cells #[.int .i64 zk, .int .i64 zn, .string zt, .slice qa zl.length qc, .slice pa zfv.length pc] 25)))
     have hT3 := hS9.out _ E3.out.block
     clear hT2
     (refine hK.out _ _ (fun _ => hT3) (fun _ => ?_); clear hK K; (try simp only [Act.put, List.setIfInBounds_toArray, List.set_cons_zero, List.set_cons_succ]))
     refine wpAnyT_one (i := 10) (by kernel_rfl) rfl (fun K hK => ?_)
     go_simp
     (refine hK.out _ _ (fun h => absurd h (by decide)) (fun _ => ?_); clear hK K; (try simp only [Act.put, List.setIfInBounds_toArray, List.set_cons_zero, List.set_cons_succ]))
     refine wpAnyT_done (by kernel_rfl) ?_ _
     go_wp2_with fail
     go_meet
     exact ⟨_, _, _, _, _, _, rfl, rfl, heap_alloc_new w4 _, hr4.out.keep (fun _ h => h) (fun b hb => (below_new w4 _).block b (Nat.lt_of_lt_of_le (hS0.out b hb) (Nat.le_trans D.out.size E.out.size))), E3.out⟩
    ·go_simp
     obtain ⟨wg, hwg⟩ : ∃ wg, wg = w1.alloc (.cells #[.int .i64 0, .int .i64 0, .string ⟨#[]⟩, .slice none 0 0, .slice none 0 0] 25) := ⟨_, rfl⟩
     have E1 : Hid (Below w1.heap.size w1 wg) := by show Below _ _ _; rw [hwg]; exact below_new _ _
     have gz : Hid (wg.heap[w1.heap.size]? = some (.cells #[.int .i64 0, .int .i64 0, .string ⟨#[]⟩, .slice none 0 0, .slice none 0 0] 25 (0, 0))) := by show _ = _; rw [hwg]; exact heap_alloc_new _ _
     rw [← hwg]
     clear hwg
     have hT1 := hS9.out wg.drew E1.out.block
     clear hT0
     (refine hK.out _ _ (fun _ => hT1) (fun _ => ?_); clear hK K; (try simp only [Act.put, List.setIfInBounds_toArray, List.set_cons_zero, List.set_cons_succ]))
     refine wpAnyT_one (i := 4) (by kernel_rfl) rfl (fun K hK => ?_)
     go_simp
     refine (hfd2.out wg.drew (D.out.step (E1.out.step (Below.refl wg.heap.size wg).drew))).mono ?_
     rintro e w4 ⟨cs4, rfl, h4, hr4⟩
     have E := hid (E1.out.step ((Below.refl wg.heap.size wg).drew.step h4))
     have g4 := hid (((Below.refl wg.heap.size wg).drew.step h4).block _ (lt_of_block gz.out) |>.trans gz.out)
     have hT2 := hS9.out _ E.out.block
     obtain ⟨zk, zn, zt, zl, zfn, zfv⟩ := X
     obtain ⟨qa, qc, pa, pc, rfl, _⟩ := hr4.inv
     replace hr4 := hid hr4
     clear h4 hT1
     (refine hK.out _ _ (fun _ => hT2) (fun _ => ?_); clear hK K; (try simp only [Act.put, List.setIfInBounds_toArray, List.set_cons_zero, List.set_cons_succ]))
     ((refine wpAnyT_take (i := 5) (v := ?_) rfl (by kernel_rfl) (by kernel_rfl) (by kernel_rfl) (by kernel_rfl) (by exact fun _ _ _ h => h) (Or.inl ⟨by kernel_rfl, ?_⟩) hT2 ?_; rotate_left 1; focus (intro w hSw; unfold RhS at hSw; (try dsimp only at hSw); go_simp; try with_reducible rfl); (try simp only [List.getElem_toArray, List.getElem_cons_zero, List.getElem_cons_succ, Act.put, List.setIfInBounds_toArray, List.set_cons_zero, List.set_cons_succ])); (refine wpAnyT_take (i := 6) (v := ?_) rfl (by kernel_rfl) (by kernel_rfl) (by kernel_rfl) (by kernel_rfl) (by exact fun _ _ _ h => h) (Or.inl ⟨by kernel_rfl, ?_⟩) hT2 ?_; rotate_left 1; focus (intro w hSw; unfold RhS at hSw; (try dsimp only at hSw); go_simp; try with_reducible rfl); (try simp only [List.getElem_toArray, List.getElem_cons_zero, List.getElem_cons_succ, Act.put, List.setIfInBounds_toArray, List.set_cons_zero, List.set_cons_succ])); (refine wpAnyT_take (i := 7) (v := ?_) rfl (by kernel_rfl) (by kernel_rfl) (by kernel_rfl) (by kernel_rfl) (by exact fun _ _ _ h => h) (Or.inl ⟨by kernel_rfl, ?_⟩) hT2 ?_; rotate_left 1; focus (intro w hSw; unfold RhS at hSw; (try dsimp only at hSw); go_simp; try with_reducible rfl); (try simp only [List.getElem_toArray, List.getElem_cons_zero, List.getElem_cons_succ, Act.put, List.setIfInBounds_toArray, List.set_cons_zero, List.set_cons_succ])))
     have c0 := box_at (j := 0) g4.out rfl
     have c1 := box_at (j := 1) g4.out rfl
     have c2 := box_at (j := 2) g4.out rfl
     have c3 := box_at (j := 3) g4.out rfl
     have c4 := box_at (j := 4) g4.out rfl
     have f0 := box_free g4.out
     refine wpAnyT_one (i := 9) (by kernel_rfl) rfl (fun K hK => ?_)
     go_simp
     clear c0 c1 c2 c3 c4
     clear f0
     have hbz := hid (set5_below E.out (Nat.le_refl _) (.int .i64 zk) (.int .i64 zn) (.string zt) (.slice qa zl.length qc) (.slice pa zfv.length pc))
     have rz := hid (set5_box (u0 := .int .i64 zk) (u1 := .int .i64 zn) (u2 := .string zt) (u3 := .slice qa zl.length qc) (u4 := .slice pa zfv.length pc) g4.out)
     have hkp := hid (fun b (hb : b ≠ w1.heap.size) => set5_other w4 (w1.heap.size) (.int .i64 zk) (.int .i64 zn) (.string zt) (.slice qa zl.length qc) (.slice pa zfv.length pc) (b := b) hb)
     unfold set5 at hbz rz hkp
     generalize ((((w4.setCell ⟨w1.heap.size, 0, none⟩ (.int .i64 zk)).setCell ⟨w1.heap.size, 1, none⟩ (.int .i64 zn)).setCell ⟨w1.heap.size, 2, none⟩ (.string zt)).setCell ⟨w1.heap.size, 3, none⟩ (.slice qa zl.length qc)).setCell ⟨w1.heap.size, 4, none⟩ (.slice pa zfv.length pc) = w9 at *
     have hT3 := hS9.out _ hbz.out.block
     clear hT2
     (refine hK.out _ _ (fun _ => hT3) (fun _ => ?_); clear hK K; (try simp only [Act.put, List.setIfInBounds_toArray, List.set_cons_zero, List.set_cons_succ]))
     refine wpAnyT_one (i := 10) (by kernel_rfl) rfl (fun K hK => ?_)
     go_simp
     (refine hK.out _ _ (fun h => absurd h (by decide)) (fun _ => ?_); clear hK K; (try simp only [Act.put, List.setIfInBounds_toArray, List.set_cons_zero, List.set_cons_succ]))
     refine wpAnyT_done (by kernel_rfl) ?_ _
     go_wp2_with fail
     go_meet
     exact ⟨_, _, _, _, _, _, rfl, rfl, rz.out, hr4.out.keep (fun _ h => h) (fun b hb => hkp.out b (by have := hS0.out b hb; have := D.out.size; unfold Now at *; omega)), hbz.out⟩
   case rest =>
    obtain ⟨g, v0, v1, v2, v3, v4, rfl, rfl, hg, hrx, hE⟩ := hcut
    replace hg := hid hg
    replace hrx := hid hrx
    have D2 := hid (D.out.step hE)
    have q1 := hid ((hE.block _ (lt_of_block r1.out)).trans r1.out)
    clear hE hS9 hfd2
    cases L with
    | none =>
     obtain rfl : R = none := hR.out
     clear hR hrx hg hX
     have c0 := box_at (j := 0) q1.out rfl
     have c1 := box_at (j := 1) q1.out rfl
     have c2 := box_at (j := 2) q1.out rfl
     have c3 := box_at (j := 3) q1.out rfl
     have c4 := box_at (j := 4) q1.out rfl
     have f0 := box_free q1.out
     go_wp2_with fail
     clear c0 c1 c2 c3 c4
     clear f0
     have hbz := hid (set5_below D2.out (Nat.le_succ _) (.int .i64 0) (.int .i64 0) (.string ⟨#[]⟩) (.slice none 0 0) (.slice none 0 0))
     have rz := hid (set5_box (u0 := .int .i64 0) (u1 := .int .i64 0) (u2 := .string ⟨#[]⟩) (u3 := .slice none 0 0) (u4 := .slice none 0 0) q1.out)
     have hkp := hid (fun b (hb : b ≠ w.heap.size + 1) => set5_other wc (w.heap.size + 1) (.int .i64 0) (.int .i64 0) (.string ⟨#[]⟩) (.slice none 0 0) (.slice none 0 0) (b := b) hb)
     have hsz9 := hid (set5_size wc (w.heap.size + 1) (.int .i64 0) (.int .i64 0) (.string ⟨#[]⟩) (.slice none 0 0) (.slice none 0 0))
     unfold set5 at hbz rz hkp hsz9
     generalize ((((wc.setCell ⟨w.heap.size + 1, 0, none⟩ (.int .i64 0)).setCell ⟨w.heap.size + 1, 1, none⟩ (.int .i64 0)).setCell ⟨w.heap.size + 1, 2, none⟩ (.string ⟨#[]⟩)).setCell ⟨w.heap.size + 1, 3, none⟩ (.slice none 0 0)).setCell ⟨w.heap.size + 1, 4, none⟩ (.slice none 0 0) = w9 at *
     have z0 := box_at (j := 0) rz.out rfl
     have z1 := box_at (j := 1) rz.out rfl
     have z2 := box_at (j := 2) rz.out rfl
     have z3 := box_at (j := 3) rz.out rfl
     have z4 := box_at (j := 4) rz.out rfl
     refine ⟨rfl, _, by simp [results, Tryz.results37, go_sem, z0, z1, z2, z3, z4] <;> exact ⟨rfl, rfl⟩, [.int .i64 0, .int .i64 0, .string ⟨#[]⟩, .slice none 0 0, .slice none 0 0], rfl, hbz.out, ?_⟩
     exact rd_zeroP
    | some y =>
     have hR2 : R = getP y r := hR.out
     have hih := ih.out y
     rw [← hR2] at hih
     replace hih := hid hih
     obtain rfl : X = y := hX.out
     clear hR hR2 ih hX
     go_upto_region 11 with fail
     have hS9 : Hid (∀ x, Below wc.heap.size wc x → RiS g v0 v1 v2 v3 v4 x) := fun x h => by
      have hB := (h.block _ (lt_of_block hg.out)).trans hg.out
      exact ⟨box_at (j := 0) hB rfl, box_at (j := 1) hB rfl, box_at (j := 2) hB rfl, box_at (j := 3) hB rfl, box_at (j := 4) hB rfl⟩
     have hr1 : (1 : Int) ≤ (r.length : Int) + 1 := by omega
     by_cases hc1 : sc = 1
     ·subst hc1
      obtain rfl : r = [] := List.length_eq_zero_iff.1 (by omega)
      simp only [List.length_nil] at hr1
      refine wp_region_T (RiS g v0 v1 v2 v3 v4) 6 (by kernel_rfl) ?_
      have hT0 := hS9.out _ (Below.refl wc.heap.size wc).drew
      ((refine wpAnyT_take (i := 0) (v := ?_) rfl (by kernel_rfl) (by kernel_rfl) (by kernel_rfl) (by kernel_rfl) (by exact fun _ _ _ h => h) (Or.inl ⟨by kernel_rfl, ?_⟩) hT0 ?_; rotate_left 1; focus (intro w hSw; unfold RiS at hSw; (try dsimp only at hSw); go_simp; try with_reducible rfl); (try simp only [List.getElem_toArray, List.getElem_cons_zero, List.getElem_cons_succ, Act.put, List.setIfInBounds_toArray, List.set_cons_zero, List.set_cons_succ])); (refine wpAnyT_take (i := 1) (v := ?_) rfl (by kernel_rfl) (by kernel_rfl) (by kernel_rfl) (by kernel_rfl) (by exact fun _ _ _ h => h) (Or.inl ⟨by kernel_rfl, ?_⟩) hT0 ?_; rotate_left 1; focus (intro w hSw; unfold RiS at hSw; (try dsimp only at hSw); go_simp; try with_reducible rfl); (try simp only [List.getElem_toArray, List.getElem_cons_zero, List.getElem_cons_succ, Act.put, List.setIfInBounds_toArray, List.set_cons_zero, List.set_cons_succ])); (refine wpAnyT_take (i := 2) (v := ?_) rfl (by kernel_rfl) (by kernel_rfl) (by kernel_rfl) (by kernel_rfl) (by exact fun _ _ _ h => h) (Or.inl ⟨by kernel_rfl, ?_⟩) hT0 ?_; rotate_left 1; focus (intro w hSw; unfold RiS at hSw; (try dsimp only at hSw); go_simp; try with_reducible rfl); (try simp only [List.getElem_toArray, List.getElem_cons_zero, List.getElem_cons_succ, Act.put, List.setIfInBounds_toArray, List.set_cons_zero, List.set_cons_succ])))
      refine wpAnyT_one (i := 3) (by kernel_rfl) rfl (fun K hK => ?_)
      go_simp
      refine (hih.out wc.drew _ _ S (fun b hb => Nat.lt_of_lt_of_le (hS0.out b hb) D2.out.size) hrx.out.drew (StrsAt.none_left (by omega))).mono ?_
      rintro e w4 ⟨cs4, rfl, h4, hr4⟩
      have E := hid ((Below.refl wc.heap.size wc).drew.step h4)
      clear h4 hT0 hih
      have hT1 := hS9.out _ E.out
      obtain ⟨X, hX⟩ : ∃ X, X = R.getD zeroP := ⟨_, rfl⟩
      rw [← hX] at hr4
      replace hX := hid hX
      obtain ⟨zk, zn, zt, zl, zfn, zfv⟩ := X
      obtain ⟨qa, qc, pa, pc, rfl, _⟩ := hr4.inv
      replace hr4 := hid hr4
      (refine hK.out _ _ (fun _ => hT1) (fun _ => ?_); clear hK K; (try simp only [Act.put, List.setIfInBounds_toArray, List.set_cons_zero, List.set_cons_succ]))
      ((refine wpAnyT_take (i := 4) (v := ?_) rfl (by kernel_rfl) (by kernel_rfl) (by kernel_rfl) (by kernel_rfl) (by exact fun _ _ _ h => h) (Or.inl ⟨by kernel_rfl, ?_⟩) hT1 ?_; rotate_left 1; focus (intro w hSw; unfold RiS at hSw; (try dsimp only at hSw); go_simp; try with_reducible rfl); (try simp only [List.getElem_toArray, List.getElem_cons_zero, List.getElem_cons_succ, Act.put, List.setIfInBounds_toArray, List.set_cons_zero, List.set_cons_succ])); (refine wpAnyT_take (i := 5) (v := ?_) rfl (by kernel_rfl) (by kernel_rfl) (by kernel_rfl) (by kernel_rfl) (by exact fun _ _ _ h => h) (Or.inl ⟨by kernel_rfl, ?_⟩) hT1 ?_; rotate_left 1; focus (intro w hSw; unfold RiS at hSw; (try dsimp only at hSw); go_simp; try with_reducible rfl); (try simp only [List.getElem_toArray, List.getElem_cons_zero, List.getElem_cons_succ, Act.put, List.setIfInBounds_toArray, List.set_cons_zero, List.set_cons_succ])))
      have q1 := hid ((E.out.block _ (lt_of_block q1.out)).trans q1.out)
      have c0 := box_at (j := 0) q1.out rfl
      have c1 := box_at (j := 1) q1.out rfl
      have c2 := box_at (j := 2) q1.out rfl
      have c3 := box_at (j := 3) q1.out rfl
      have c4 := box_at (j := 4) q1.out rfl
      have f0 := box_free q1.out
      refine wpAnyT_one (i := 6) (by kernel_rfl) rfl (fun K hK => ?_)
      go_simp
      (refine hK.out _ _ (fun h => absurd h (by decide)) (fun _ => ?_); clear hK K; (try simp only [Act.put, List.setIfInBounds_toArray]))
      refine wpAnyT_one (i := 7) (by kernel_rfl) rfl (fun K hK => ?_)
      go_simp
      (refine hK.out _ _ (fun h => absurd h (by decide)) (fun _ => ?_); clear hK K; (try simp only [Act.put, List.setIfInBounds_toArray, List.set_cons_zero, List.set_cons_succ]))
      refine wpAnyT_done (by kernel_rfl) ?_ _
      clear c0 c1 c2 c3 c4
      clear f0 hT1
      have DE := hid (D2.out.step E.out)
      have hbz := hid (set5_below DE.out (Nat.le_succ _) (.int .i64 zk) (.int .i64 zn) (.string zt) (.slice qa zl.length qc) (.slice pa zfv.length pc))
      have rz := hid (set5_box (u0 := .int .i64 zk) (u1 := .int .i64 zn) (u2 := .string zt) (u3 := .slice qa zl.length qc) (u4 := .slice pa zfv.length pc) q1.out)
      have hkp := hid (fun b (hb : b ≠ w.heap.size + 1) => set5_other w4 (w.heap.size + 1) (.int .i64 zk) (.int .i64 zn) (.string zt) (.slice qa zl.length qc) (.slice pa zfv.length pc) (b := b) hb)
      have hsz9 := hid (set5_size w4 (w.heap.size + 1) (.int .i64 zk) (.int .i64 zn) (.string zt) (.slice qa zl.length qc) (.slice pa zfv.length pc))
      unfold set5 at hbz rz hkp hsz9
      generalize ((((w4.setCell ⟨w.heap.size + 1, 0, none⟩ (.int .i64 zk)).setCell ⟨w.heap.size + 1, 1, none⟩ (.int .i64 zn)).setCell ⟨w.heap.size + 1, 2, none⟩ (.string zt)).setCell ⟨w.heap.size + 1, 3, none⟩ (.slice qa zl.length qc)).setCell ⟨w.heap.size + 1, 4, none⟩ (.slice pa zfv.length pc) = w9 at *
      go_wp2_with fail
      have z0 := box_at (j := 0) rz.out rfl
      have z1 := box_at (j := 1) rz.out rfl
      have z2 := box_at (j := 2) rz.out rfl
      have z3 := box_at (j := 3) rz.out rfl
      have z4 := box_at (j := 4) rz.out rfl
      refine ⟨rfl, _, by simp [results, Tryz.results37, go_sem, z0, z1, z2, z3, z4] <;> exact ⟨rfl, rfl⟩, [.int .i64 zk, .int .i64 zn, .string zt, .slice qa zl.length qc, .slice pa zfv.length pc], rfl, hbz.out, ?_⟩
      rw [← hX.out]
      exact hr4.out.keep (fun _ h => h) (fun b hb => hkp.out b (by have := hS0.out b hb; unfold Now at this; omega))
     ·refine wp_region_T (RiS g v0 v1 v2 v3 v4) 6 (by kernel_rfl) ?_
      have hT0 := hS9.out _ (Below.refl wc.heap.size wc).drew
      ((refine wpAnyT_take (i := 0) (v := ?_) rfl (by kernel_rfl) (by kernel_rfl) (by kernel_rfl) (by kernel_rfl) (by exact fun _ _ _ h => h) (Or.inl ⟨by kernel_rfl, ?_⟩) hT0 ?_; rotate_left 1; focus (intro w hSw; unfold RiS at hSw; (try dsimp only at hSw); go_simp; try with_reducible rfl); (try simp only [List.getElem_toArray, List.getElem_cons_zero, List.getElem_cons_succ, Act.put, List.setIfInBounds_toArray, List.set_cons_zero, List.set_cons_succ])); (refine wpAnyT_take (i := 1) (v := ?_) rfl (by kernel_rfl) (by kernel_rfl) (by kernel_rfl) (by kernel_rfl) (by exact fun _ _ _ h => h) (Or.inl ⟨by kernel_rfl, ?_⟩) hT0 ?_; rotate_left 1; focus (intro w hSw; unfold RiS at hSw; (try dsimp only at hSw); go_simp; try with_reducible rfl); (try simp only [List.getElem_toArray, List.getElem_cons_zero, List.getElem_cons_succ, Act.put, List.setIfInBounds_toArray, List.set_cons_zero, List.set_cons_succ])); (refine wpAnyT_take (i := 2) (v := ?_) rfl (by kernel_rfl) (by kernel_rfl) (by kernel_rfl) (by kernel_rfl) (by exact fun _ _ _ h => h) (Or.inl ⟨by kernel_rfl, ?_⟩) hT0 ?_; rotate_left 1; focus (intro w hSw; unfold RiS at hSw; (try dsimp only at hSw); go_simp; try with_reducible rfl); (try simp only [List.getElem_toArray, List.getElem_cons_zero, List.getElem_cons_succ, Act.put, List.setIfInBounds_toArray, List.set_cons_zero, List.set_cons_succ])))
      refine wpAnyT_one (i := 3) (by kernel_rfl) rfl (fun K hK => ?_)
      go_simp
      refine (hih.out wc.drew _ _ S (fun b hb => Nat.lt_of_lt_of_le (hS0.out b hb) D2.out.size) hrx.out.drew (hss0.out.tail.later (D2.out.trans ((Below.refl wc.heap.size wc).drew.mono D2.out.size)))).mono ?_
      rintro e w4 ⟨cs4, rfl, h4, hr4⟩
      have E := hid ((Below.refl wc.heap.size wc).drew.step h4)
      clear h4 hT0 hih
      have hT1 := hS9.out _ E.out
      obtain ⟨X, hX⟩ : ∃ X, X = R.getD zeroP := ⟨_, rfl⟩
      rw [← hX] at hr4
      replace hX := hid hX
      obtain ⟨zk, zn, zt, zl, zfn, zfv⟩ := X
      obtain ⟨qa, qc, pa, pc, rfl, _⟩ := hr4.inv
      replace hr4 := hid hr4
      (refine hK.out _ _ (fun _ => hT1) (fun _ => ?_); clear hK K; (try simp only [Act.put, List.setIfInBounds_toArray, List.set_cons_zero, List.set_cons_succ]))
      ((refine wpAnyT_take (i := 4) (v := ?_) rfl (by kernel_rfl) (by kernel_rfl) (by kernel_rfl) (by kernel_rfl) (by exact fun _ _ _ h => h) (Or.inl ⟨by kernel_rfl, ?_⟩) hT1 ?_; rotate_left 1; focus (intro w hSw; unfold RiS at hSw; (try dsimp only at hSw); go_simp; try with_reducible rfl); (try simp only [List.getElem_toArray, List.getElem_cons_zero, List.getElem_cons_succ, Act.put, List.setIfInBounds_toArray, List.set_cons_zero, List.set_cons_succ])); (refine wpAnyT_take (i := 5) (v := ?_) rfl (by kernel_rfl) (by kernel_rfl) (by kernel_rfl) (by kernel_rfl) (by exact fun _ _ _ h => h) (Or.inl ⟨by kernel_rfl, ?_⟩) hT1 ?_; rotate_left 1; focus (intro w hSw; unfold RiS at hSw; (try dsimp only at hSw); go_simp; try with_reducible rfl); (try simp only [List.getElem_toArray, List.getElem_cons_zero, List.getElem_cons_succ, Act.put, List.setIfInBounds_toArray, List.set_cons_zero, List.set_cons_succ])))
      have q1 := hid ((E.out.block _ (lt_of_block q1.out)).trans q1.out)
      have c0 := box_at (j := 0) q1.out rfl
      have c1 := box_at (j := 1) q1.out rfl
      have c2 := box_at (j := 2) q1.out rfl
      have c3 := box_at (j := 3) q1.out rfl
      have c4 := box_at (j := 4) q1.out rfl
      have f0 := box_free q1.out
      refine wpAnyT_one (i := 6) (by kernel_rfl) rfl (fun K hK => ?_)
      go_simp
      (refine hK.out _ _ (fun h => absurd h (by decide)) (fun _ => ?_); clear hK K; (try simp only [Act.put, List.setIfInBounds_toArray]))
      refine wpAnyT_one (i := 7) (by kernel_rfl) rfl (fun K hK => ?_)
      go_simp
      (refine hK.out _ _ (fun h => absurd h (by decide)) (fun _ => ?_); clear hK K; (try simp only [Act.put, List.setIfInBounds_toArray, List.set_cons_zero, List.set_cons_succ]))
      refine wpAnyT_done (by kernel_rfl) ?_ _
      clear c0 c1 c2 c3 c4
      clear f0 hT1
      have DE := hid (D2.out.step E.out)
      have hbz := hid (set5_below DE.out (Nat.le_succ _) (.int .i64 zk) (.int .i64 zn) (.string zt) (.slice qa zl.length qc) (.slice pa zfv.length pc))
      have rz := hid (set5_box (u0 := .int .i64 zk) (u1 := .int .i64 zn) (u2 := .string zt) (u3 := .slice qa zl.length qc) (u4 := .slice pa zfv.length pc) q1.out)
      have hkp := hid (fun b (hb : b ≠ w.heap.size + 1) => set5_other w4 (w.heap.size + 1) (.int .i64 zk) (.int .i64 zn) (.string zt) (.slice qa zl.length qc) (.slice pa zfv.length pc) (b := b) hb)
      have hsz9 := hid (set5_size w4 (w.heap.size + 1) (.int .i64 zk) (.int .i64 zn) (.string zt) (.slice qa zl.length qc) (.slice pa zfv.length pc))
      unfold set5 at hbz rz hkp hsz9
      generalize ((((w4.setCell ⟨w.heap.size + 1, 0, none⟩ (.int .i64 zk)).setCell ⟨w.heap.size + 1, 1, none⟩ (.int .i64 zn)).setCell ⟨w.heap.size + 1, 2, none⟩ (.string zt)).setCell ⟨w.heap.size + 1, 3, none⟩ (.slice qa zl.length qc)).setCell ⟨w.heap.size + 1, 4, none⟩ (.slice pa zfv.length pc) = w9 at *
      go_wp2_with fail
      have z0 := box_at (j := 0) rz.out rfl
      have z1 := box_at (j := 1) rz.out rfl
      have z2 := box_at (j := 2) rz.out rfl
      have z3 := box_at (j := 3) rz.out rfl
      have z4 := box_at (j := 4) rz.out rfl
      refine ⟨rfl, _, by simp [results, Tryz.results37, go_sem, z0, z1, z2, z3, z4] <;> exact ⟨rfl, rfl⟩, [.int .i64 zk, .int .i64 zn, .string zt, .slice qa zl.length qc, .slice pa zfv.length pc], rfl, hbz.out, ?_⟩
      rw [← hX.out]
      exact hr4.out.keep (fun _ h => h) (fun b hb => hkp.out b (by have := hS0.out b hb; unfold Now at this; omega))
end Go.Proofs.YthjihdpleclejaaGreatDoor
