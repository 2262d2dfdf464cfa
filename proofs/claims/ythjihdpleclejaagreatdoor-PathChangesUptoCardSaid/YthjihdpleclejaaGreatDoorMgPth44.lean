/-
  Walk: the reference's set, by steps. No condition.
-/
import Derived.Test.YthjihdpleclejaaGreatDoorMgPth43
import Derived.Test.YthjihdpleclejaaGreatDoorMgPth40
namespace Go.Proofs.YthjihdpleclejaaGreatDoor
open Go.RowKit Go.Proofs
set_option maxRecDepth 100000 in
set_option maxHeartbeats 8000000 in
theorem rset_nil (V X0 : PVal) {S : Nat → Prop} {w : World} {cs xs : List Value} {sv : Value} (hS : ∀ c, S c → c < w.heap.size) (hV : Rd w S V cs) (hx : Rd w S X0 xs) (hss : StrsAt w (Now w) [] sv) :
  Calls Tryz.prog 36 #[.agg cs.toArray, sv, .agg xs.toArray] w (TellR S (setR V [] X0) w) := by
 rw [setR]
 unfold TellR
 obtain ⟨sa, sc, rfl, _⟩ := hss
 have hV0 := hid hV
 have hx0 := hid hx
 have hSw := hid hS
 obtain ⟨k, n0, str, l, fn, fv⟩ := V
 obtain ⟨la, lc, fa, fc, rfl, _⟩ := hV.inv
 obtain ⟨uk, un, ut, ua, ul, uc, uf, um, ug, rfl⟩ := hx.five
 clear hV hx hS
 obtain ⟨W0, hW0⟩ : ∃ W0, W0 = ((w.alloc (.cells #[.int .i64 k, .int .i64 n0, .string str, .slice la l.length lc, .slice fa fv.length fc] 25)).alloc (.cells #[.int .i64 uk, .int .i64 un, .string ut, .slice ua ul uc, .slice uf um ug] 25)).alloc (.cells #[.int .i64 0, .int .i64 0, .string ⟨#[]⟩, .slice none 0 0, .slice none 0 0] 25) := ⟨_, rfl⟩
 have D : Hid (Below w.heap.size w W0) := by show Below _ _ _; rw [hW0]; exact ((below_new _ _).step (below_new _ _)).step (below_new _ _)
 have r3 : Hid (W0.heap[w.heap.size]? = some (.cells #[.int .i64 k, .int .i64 n0, .string str, .slice la l.length lc, .slice fa fv.length fc] 25 (0, 0))) := by show _ = _; rw [hW0]; exact al_old (al_old (al_at rfl))
 have r5 : Hid (W0.heap[w.heap.size + 1]? = some (.cells #[.int .i64 uk, .int .i64 un, .string ut, .slice ua ul uc, .slice uf um ug] 25 (0, 0))) := by show _ = _; rw [hW0]; exact al_old (al_at (by simp))
 have r6 : Hid (W0.heap[w.heap.size + 2]? = some (.cells #[.int .i64 0, .int .i64 0, .string ⟨#[]⟩, .slice none 0 0, .slice none 0 0] 25 (0, 0))) := by show _ = _; rw [hW0]; exact al_at (by simp)
 have hW0s : Hid (w.heap.size + 2 < W0.heap.size) := lt_of_block r6.out
 go_enter Tryz.func36, Tryz.ntmps36
 go_upto_region 1 with fail
 rw [← hW0]
 clear hW0
 have c0 := box_at (j := 0) r6.out rfl
 have c1 := box_at (j := 1) r6.out rfl
 have c2 := box_at (j := 2) r6.out rfl
 have c3 := box_at (j := 3) r6.out rfl
 have c4 := box_at (j := 4) r6.out rfl
 have f0 := box_free r6.out
 have b0 := box_at (j := 0) r5.out rfl
 have b1 := box_at (j := 1) r5.out rfl
 have b2 := box_at (j := 2) r5.out rfl
 have b3 := box_at (j := 3) r5.out rfl
 have b4 := box_at (j := 4) r5.out rfl
 go_wp2_with fail
 clear c0 c1 c2 c3 c4
 clear b0 b1 b2 b3 b4
 clear f0
 have hbz := hid (set5_below D.out (Nat.le_add_right w.heap.size 2) (.int .i64 uk) (.int .i64 un) (.string ut) (.slice ua ul uc) (.slice uf um ug))
 have rz := hid (set5_box (u0 := .int .i64 uk) (u1 := .int .i64 un) (u2 := .string ut) (u3 := .slice ua ul uc) (u4 := .slice uf um ug) r6.out)
 have hkp := hid (fun b (hb : b ≠ w.heap.size + 2) => set5_other W0 (w.heap.size + 2) (.int .i64 uk) (.int .i64 un) (.string ut) (.slice ua ul uc) (.slice uf um ug) (b := b) hb)
 have hsz9 := hid (set5_size W0 (w.heap.size + 2) (.int .i64 uk) (.int .i64 un) (.string ut) (.slice ua ul uc) (.slice uf um ug))
 unfold set5 at hbz rz hkp hsz9
 generalize ((((W0.setCell ⟨w.heap.size + 2, 0, none⟩ (.int .i64 uk)).setCell ⟨w.heap.size + 2, 1, none⟩ (.int .i64 un)).setCell ⟨w.heap.size + 2, 2, none⟩ (.string ut)).setCell ⟨w.heap.size + 2, 3, none⟩ (.slice ua ul uc)).setCell ⟨w.heap.size + 2, 4, none⟩ (.slice uf um ug) = w9 at *
 have z0 := box_at (j := 0) rz.out rfl
 have z1 := box_at (j := 1) rz.out rfl
 have z2 := box_at (j := 2) rz.out rfl
 have z3 := box_at (j := 3) rz.out rfl
 have z4 := box_at (j := 4) rz.out rfl
 refine ⟨rfl, _, by simp [results, Tryz.results36, go_sem, z0, z1, z2, z3, z4] <;> exact ⟨rfl, rfl⟩, [.int .i64 uk, .int .i64 un, .string ut, .slice ua ul uc, .slice uf um ug], rfl, hbz.out, ?_⟩
 exact hx0.out.keep (fun c h => .inl h) (fun c h => (hkp.out c (by have := hSw.out c h; omega)).trans (D.out.block c (hSw.out c h)))
theorem five_lenV {w : World} {S : Nat → Prop} {V : PVal} {cs : List Value} (h : Rd w S V cs) : V.l.length ≤ 1759218604441 := by
 obtain ⟨k2, n2, s2, l2, fn2, fv2⟩ := V
 obtain ⟨_, _, _, _, _, _, _, _, _, h1, _⟩ := h.inv
 exact h1.2
set_option maxRecDepth 100000 in
set_option maxHeartbeats 8000000 in
theorem rset_stop (V X0 : PVal) (s : ByteArray) (r : List ByteArray) (hz : s.size ≤ 140737488355328) {S : Nat → Prop} {w : World} {cs xs : List Value} {sv : Value} (hS : ∀ c, S c → c < w.heap.size) (hV : Rd w S V cs) (hx : Rd w S X0 xs) (hss : StrsAt w (Now w) (s :: r) sv)
  (hstop : (∃ n, place s = some n ∧ (V.k ≠ 5 ∨ V.l[n]? = none)) ∨ place s = none ∧ V.k ≠ 6) :
  Calls Tryz.prog 36 #[.agg cs.toArray, sv, .agg xs.toArray] w (TellR S (setR V (s :: r) X0) w) := by
 obtain ⟨R, hR⟩ : ∃ R, R = setR V (s :: r) X0 := ⟨_, rfl⟩
 rw [← hR]
 rw [setR] at hR
 unfold TellR
 have hpl := hid (fun w => rplace_calls s w hz)
 unfold placeZ at hpl
 obtain ⟨sa, sc, rfl, _⟩ := id hss
 obtain ⟨sb, so, rfl, hn1, hsc1, hsc2, hsb, hsc⟩ := hss.head
 replace hsb := hid hsb
 have hsc0 := hid hsc
 have hlm := hid (five_lenV hV)
 clear hss hn1 hsc
 simp only [List.length_cons]
 have hV0 := hid hV
 obtain ⟨VX, hVX⟩ : ∃ VX, VX = V := ⟨_, rfl⟩
 rw [← hVX] at hR hV0 hstop hlm
 have hx0 := hid hx
 have hSw := hid hS
 obtain ⟨k, n0, str, l, fn, fv⟩ := V
 obtain ⟨la, lc, fa, fc, rfl, _⟩ := hV.inv
 obtain ⟨uk, un, ut, ua, ul, uc, uf, um, ug, rfl⟩ := hx.five
 clear hV hx hS
 obtain ⟨W0, hW0⟩ : ∃ W0, W0 = ((w.alloc (.cells #[.int .i64 k, .int .i64 n0, .string str, .slice la l.length lc, .slice fa fv.length fc] 25)).alloc (.cells #[.int .i64 uk, .int .i64 un, .string ut, .slice ua ul uc, .slice uf um ug] 25)).alloc (.cells #[.int .i64 0, .int .i64 0, .string ⟨#[]⟩, .slice none 0 0, .slice none 0 0] 25) := ⟨_, rfl⟩
 have D : Hid (Below w.heap.size w W0) := by show Below _ _ _; rw [hW0]; exact ((below_new _ _).step (below_new _ _)).step (below_new _ _)
 have r3 : Hid (W0.heap[w.heap.size]? = some (.cells #[.int .i64 k, .int .i64 n0, .string str, .slice la l.length lc, .slice fa fv.length fc] 25 (0, 0))) := by show _ = _; rw [hW0]; exact al_old (al_old (al_at rfl))
 have r5 : Hid (W0.heap[w.heap.size + 1]? = some (.cells #[.int .i64 uk, .int .i64 un, .string ut, .slice ua ul uc, .slice uf um ug] 25 (0, 0))) := by show _ = _; rw [hW0]; exact al_old (al_at (by simp))
 have r6 : Hid (W0.heap[w.heap.size + 2]? = some (.cells #[.int .i64 0, .int .i64 0, .string ⟨#[]⟩, .slice none 0 0, .slice none 0 0] 25 (0, 0))) := by show _ = _; rw [hW0]; exact al_at (by simp)
 have hW0s : Hid (w.heap.size + 2 < W0.heap.size) := lt_of_block r6.out
 go_enter Tryz.func36, Tryz.ntmps36
 go_upto_region 1 with fail
 rw [← hW0]
 clear hW0
 have s0 := (World.cell?_of_block (w := w) (D.out.block sb hsb.out)).trans hsc0.out
 go_wp2_with fail
 refine (hpl.out _).mono ?_
 rintro e w1 ⟨rfl, hw1⟩
 subst hw1
 clear hpl s0
 cases hp : place s with
 | some n =>
  rw [hp] at hR hstop
  have hvk : VX.k = k := by rw [hVX]; rfl
  have hvl : VX.l = l := by rw [hVX]; rfl
  by_cases hk5 : k = 5
  ·have hki : (k != 5) = false := by simp [hk5]
   have hnn : l[n]? = none := by
    rcases hstop with ⟨n', e, h⟩ | ⟨e, _⟩
    ·injection e with e
     subst e
     rcases h with h | h
     ·exact absurd (hvk.trans hk5) h
     ·rw [hvl] at h; exact h
    ·cases e
   have hnl : ¬ n < l.length := fun h => by rw [List.getElem?_eq_getElem h] at hnn; cases hnn
   have hni : (l.length : Int) ≤ (n : Int) := by omega
   have hR2 : R = (VX, 8) := by rw [hR]; simp [hvk, hk5, hvl, hnn]
   subst hR2
   clear hR hstop hk5 hnn hvk hvl hVX
   have c0 := box_at (j := 0) r6.out rfl
   have c1 := box_at (j := 1) r6.out rfl
   have c2 := box_at (j := 2) r6.out rfl
   have c3 := box_at (j := 3) r6.out rfl
   have c4 := box_at (j := 4) r6.out rfl
   have f0 := box_free r6.out
   have b0 := box_at (j := 0) r3.out rfl
   have b1 := box_at (j := 1) r3.out rfl
   have b2 := box_at (j := 2) r3.out rfl
   have b3 := box_at (j := 3) r3.out rfl
   have b4 := box_at (j := 4) r3.out rfl
   go_wp2_with fail
   clear c0 c1 c2 c3 c4
   clear b0 b1 b2 b3 b4
   clear f0
   have hbz := hid (set5_below D.out (Nat.le_add_right w.heap.size 2) (.int .i64 k) (.int .i64 n0) (.string str) (.slice la l.length lc) (.slice fa fv.length fc))
   have rz := hid (set5_box (u0 := .int .i64 k) (u1 := .int .i64 n0) (u2 := .string str) (u3 := .slice la l.length lc) (u4 := .slice fa fv.length fc) r6.out)
   have hkp := hid (fun b (hb : b ≠ w.heap.size + 2) => set5_other w1 (w.heap.size + 2) (.int .i64 k) (.int .i64 n0) (.string str) (.slice la l.length lc) (.slice fa fv.length fc) (b := b) hb)
   have hsz9 := hid (set5_size w1 (w.heap.size + 2) (.int .i64 k) (.int .i64 n0) (.string str) (.slice la l.length lc) (.slice fa fv.length fc))
   unfold set5 at hbz rz hkp hsz9
   generalize ((((w1.setCell ⟨w.heap.size + 2, 0, none⟩ (.int .i64 k)).setCell ⟨w.heap.size + 2, 1, none⟩ (.int .i64 n0)).setCell ⟨w.heap.size + 2, 2, none⟩ (.string str)).setCell ⟨w.heap.size + 2, 3, none⟩ (.slice la l.length lc)).setCell ⟨w.heap.size + 2, 4, none⟩ (.slice fa fv.length fc) = w9 at *
   have z0 := box_at (j := 0) rz.out rfl
   have z1 := box_at (j := 1) rz.out rfl
   have z2 := box_at (j := 2) rz.out rfl
   have z3 := box_at (j := 3) rz.out rfl
   have z4 := box_at (j := 4) rz.out rfl
   refine ⟨rfl, _, by simp [results, Tryz.results36, go_sem, z0, z1, z2, z3, z4] <;> exact ⟨rfl, rfl⟩, [.int .i64 k, .int .i64 n0, .string str, .slice la l.length lc, .slice fa fv.length fc], rfl, hbz.out, ?_⟩
   exact hV0.out.keep (fun c h => .inl h) (fun c h => (hkp.out c (by have := hSw.out c h; omega)).trans (D.out.block c (hSw.out c h)))
  ·have hki : (k != 5) = true := by simp [hk5]
   have hR2 : R = (VX, 7) := by rw [hR]; simp [hvk, hk5]
   subst hR2
   clear hR hstop hk5 hvk hvl hVX
   have c0 := box_at (j := 0) r6.out rfl
   have c1 := box_at (j := 1) r6.out rfl
   have c2 := box_at (j := 2) r6.out rfl
   have c3 := box_at (j := 3) r6.out rfl
   have c4 := box_at (j := 4) r6.out rfl
   have f0 := box_free r6.out
   have b0 := box_at (j := 0) r3.out rfl
   have b1 := box_at (j := 1) r3.out rfl
   have b2 := box_at (j := 2) r3.out rfl
   have b3 := box_at (j := 3) r3.out rfl
   have b4 := box_at (j := 4) r3.out rfl
   go_wp2_with fail
   clear c0 c1 c2 c3 c4
   clear b0 b1 b2 b3 b4
   clear f0
   have hbz := hid (set5_below D.out (Nat.le_add_right w.heap.size 2) (.int .i64 k) (.int .i64 n0) (.string str) (.slice la l.length lc) (.slice fa fv.length fc))
   have rz := hid (set5_box (u0 := .int .i64 k) (u1 := .int .i64 n0) (u2 := .string str) (u3 := .slice la l.length lc) (u4 := .slice fa fv.length fc) r6.out)
   have hkp := hid (fun b (hb : b ≠ w.heap.size + 2) => set5_other w1 (w.heap.size + 2) (.int .i64 k) (.int .i64 n0) (.string str) (.slice la l.length lc) (.slice fa fv.length fc) (b := b) hb)
   have hsz9 := hid (set5_size w1 (w.heap.size + 2) (.int .i64 k) (.int .i64 n0) (.string str) (.slice la l.length lc) (.slice fa fv.length fc))
   unfold set5 at hbz rz hkp hsz9
   generalize ((((w1.setCell ⟨w.heap.size + 2, 0, none⟩ (.int .i64 k)).setCell ⟨w.heap.size + 2, 1, none⟩ (.int .i64 n0)).setCell ⟨w.heap.size + 2, 2, none⟩ (.string str)).setCell ⟨w.heap.size + 2, 3, none⟩ (.slice la l.length lc)).setCell ⟨w.heap.size + 2, 4, none⟩ (.slice fa fv.length fc) = w9 at *
   have z0 := box_at (j := 0) rz.out rfl
   have z1 := box_at (j := 1) rz.out rfl
   have z2 := box_at (j := 2) rz.out rfl
   have z3 := box_at (j := 3) rz.out rfl
   have z4 := box_at (j := 4) rz.out rfl
   refine ⟨rfl, _, by simp [results, Tryz.results36, go_sem, z0, z1, z2, z3, z4] <;> exact ⟨rfl, rfl⟩, [.int .i64 k, .int .i64 n0, .string str, .slice la l.length lc, .slice fa fv.length fc], rfl, hbz.out, ?_⟩
   exact hV0.out.keep (fun c h => .inl h) (fun c h => (hkp.out c (by have := hSw.out c h; omega)).trans (D.out.block c (hSw.out c h)))
 | none =>
  rw [hp] at hR hstop
  have hvk : VX.k = k := by rw [hVX]; rfl
  have hk6 : k ≠ 6 := by
   rcases hstop with ⟨n', e, h⟩ | ⟨_, h⟩
   ·cases e
   ·rw [hvk] at h; exact h
  have hki : (k != 6) = true := by simp [hk6]
  have hR2 : R = (VX, 7) := by rw [hR]; simp [hvk, hk6]
  subst hR2
  clear hR hstop hk6 hvk hVX
  have c0 := box_at (j := 0) r6.out rfl
  have c1 := box_at (j := 1) r6.out rfl
  have c2 := box_at (j := 2) r6.out rfl
  have c3 := box_at (j := 3) r6.out rfl
  have c4 := box_at (j := 4) r6.out rfl
  have f0 := box_free r6.out
  have b0 := box_at (j := 0) r3.out rfl
  have b1 := box_at (j := 1) r3.out rfl
  have b2 := box_at (j := 2) r3.out rfl
  have b3 := box_at (j := 3) r3.out rfl
  have b4 := box_at (j := 4) r3.out rfl
  go_wp2_with fail
  clear c0 c1 c2 c3 c4
  clear b0 b1 b2 b3 b4
  clear f0
  have hbz := hid (set5_below D.out (Nat.le_add_right w.heap.size 2) (.int .i64 k) (.int .i64 n0) (.string str) (.slice la l.length lc) (.slice fa fv.length fc))
  have rz := hid (set5_box (u0 := .int .i64 k) (u1 := .int .i64 n0) (u2 := .string str) (u3 := .slice la l.length lc) (u4 := .slice fa fv.length fc) r6.out)
  have hkp := hid (fun b (hb : b ≠ w.heap.size + 2) => set5_other w1 (w.heap.size + 2) (.int .i64 k) (.int .i64 n0) (.string str) (.slice la l.length lc) (.slice fa fv.length fc) (b := b) hb)
  have hsz9 := hid (set5_size w1 (w.heap.size + 2) (.int .i64 k) (.int .i64 n0) (.string str) (.slice la l.length lc) (.slice fa fv.length fc))
  unfold set5 at hbz rz hkp hsz9
  generalize ((((w1.setCell ⟨w.heap.size + 2, 0, none⟩ (.int .i64 k)).setCell ⟨w.heap.size + 2, 1, none⟩ (.int .i64 n0)).setCell ⟨w.heap.size + 2, 2, none⟩ (.string str)).setCell ⟨w.heap.size + 2, 3, none⟩ (.slice la l.length lc)).setCell ⟨w.heap.size + 2, 4, none⟩ (.slice fa fv.length fc) = w9 at *
  have z0 := box_at (j := 0) rz.out rfl
  have z1 := box_at (j := 1) rz.out rfl
  have z2 := box_at (j := 2) rz.out rfl
  have z3 := box_at (j := 3) rz.out rfl
  have z4 := box_at (j := 4) rz.out rfl
  refine ⟨rfl, _, by simp [results, Tryz.results36, go_sem, z0, z1, z2, z3, z4] <;> exact ⟨rfl, rfl⟩, [.int .i64 k, .int .i64 n0, .string str, .slice la l.length lc, .slice fa fv.length fc], rfl, hbz.out, ?_⟩
  exact hV0.out.keep (fun c h => .inl h) (fun c h => (hkp.out c (by have := hSw.out c h; omega)).trans (D.out.block c (hSw.out c h)))
end Go.Proofs.YthjihdpleclejaaGreatDoor
