/-
  Walks: slices.ContainsFunc and IndexFunc at values, with there's function. No condition.
  Walk: there (a change, if a path leads somewhere). No condition.
-/
import Derived.Test.YthjihdpleclejaaGreatDoorMgPth20
import Derived.Test.YthjihdpleclejaaGreatDoorMgPthV
namespace Go.Proofs.YthjihdpleclejaaGreatDoor
open Go.RowKit Go.Proofs
set_option maxRecDepth 100000 in
theorem there1_calls (x : PVal) (hx : x.mass ≤ 1073741824) (w : World) (cs : List Value) (hT : Tabs w) (hr : Rd w (Now w) x cs) :
  Calls Tryz.prog 46 #[.agg cs.toArray] w fun e w' => e = .returned (.bool (x.good != 0)) ∧ Below w.heap.size w w' := by
 have hgd := hid (fun (w' : World) (h : Below w.heap.size w w') => good_mass x (by omega) w' cs (Tabs.stays w w' hT h) (hr.later h))
 generalize x.good = G at *
 obtain ⟨k, n, s, l, fn, fv⟩ := x
 obtain ⟨la, lc, fa, fc, rfl, _⟩ := hr.inv
 clear hr hx
 have hB0 := hid (below_new w (.cells #[.int .i64 k, .int .i64 n, .string s, .slice la l.length lc, .slice fa fv.length fc] 25))
 go_enter Tryz.func46, Tryz.ntmps46
 go_wp2_with fail
 refine (hgd.out _ hB0.out).mono ?_
 rintro e w1 ⟨rfl, h1⟩
 go_wp2_with fail
 go_ret
 exact ⟨rfl, hB0.out.step h1⟩
set_option maxRecDepth 100000 in
set_option maxHeartbeats 1000000 in
theorem indexV_calls (xs : List PVal) (hm : ∀ x ∈ xs, x.mass ≤ 1073741824) (la : Option Addr) (c : Nat) (w : World) (hT : Tabs w) (hX : RdL w (Now w) xs (.slice la xs.length c)) :
  Calls Tryz.prog 71 #[.slice la xs.length c, .func (.func 46) #[] #[]] w fun e w' =>
   ∃ r : Int, e = .returned (.int .i64 r) ∧ (-1 ≤ r ∧ r ≤ 9223372036854775807) ∧ decide (0 ≤ r) = xs.any (fun x => x.good != 0) ∧ Below w.heap.size w w' := by
 have hlim : xs.length ≤ 1759218604441 := by obtain ⟨_, _, _, _, _, h, _⟩ := hX; exact h.2
 have hgo : ∀ (args : Array Value) (w : World), (callFunc 46 args).run Tryz.prog w = .ok (.enter 46 args) w := enters_of Tryz.func46 (by kernel_rfl) rfl
 have ht := hid (fun (x : PVal) (hx : x ∈ xs) (w' : World) (cs : List Value) (hb : Below w.heap.size w w') hr => there1_calls x (hm x hx) w' cs (Tabs.stays w w' hT hb) hr)
 clear hm
 go_enter Tryz.func71, Tryz.ntmps71
 go_wp2_with fail
 go_loopg [8] xs.length (fun k i wr => ∃ j : Nat, k + j = xs.length ∧ i = .int .i64 j ∧ (xs.take j).any (fun x => x.good != 0) = false ∧ Below w.heap.size w wr)
 case atStart => exact ⟨0, by omega, rfl, by simp, Below.refl _ _⟩
 case round =>
  obtain ⟨j, hj, rfl, hall, hbr⟩ := hrel
  have hall := hid hall
  have hpr := hX.later hbr
  by_cases hlt : j < xs.length
  ·obtain ⟨x, hx⟩ : ∃ x, xs[j]? = some x := ⟨_, List.getElem?_eq_getElem hlt⟩
   obtain ⟨b, off, ys, rfl, hxS, hxc, hxr⟩ := hpr.at_ hx
   have hcx := hid (ht.out x (List.mem_of_getElem? hx) wr ys hbr hxr)
   have hsx : Hid ((xs.take (j + 1)).any (fun x => x.good != 0) = (x.good != 0)) := by show _ = _; rw [take_succ_of hx, List.any_append, hall.out]; simp
   have hall2 : Hid ((x.good != 0) = true → xs.any (fun x => x.good != 0) = true) := fun h => List.any_eq_true.2 ⟨x, List.mem_of_getElem? hx, h⟩
   generalize (x.good != 0) = ax at *
   obtain ⟨xk, xn, xsx, xl, xfn, xfv⟩ := x
   obtain ⟨xla, xlc, xfa, xfc, rfl, _⟩ := hxr.inv
   obtain ⟨c0, c1, c2, c3, c4⟩ := five hxc
   clear hxc
   go_wp2_with fail
   refine hcx.out.mono ?_
   rintro e w3 ⟨rfl, hb3⟩
   cases ax with
   | true =>
    have he : Hid (xs.any (fun x => x.good != 0) = true) := hall2.out rfl
    go_wp2_with fail
    go_ret
    exact ⟨j, rfl, by omega, by rw [he.out]; simp, hbr.step hb3⟩
   | false =>
    go_wp2_with fail
    go_roundg (xs.length - (j + 1))
    case measure => omega
    case rel => exact ⟨j + 1, by omega, by go_num, hsx.out, hbr.step hb3⟩
  ·have he : Hid (xs.any (fun x => x.good != 0) = false) := by
    have h1 : j = xs.length := by omega
    subst h1
    have := hall.out
    rwa [List.take_length] at this
   go_wp2_with fail
   go_ret
   exact ⟨-1, rfl, by omega, by rw [he.out]; rfl, hbr⟩
set_option maxRecDepth 100000 in
theorem containsV_calls (xs : List PVal) (hm : ∀ x ∈ xs, x.mass ≤ 1073741824) (la : Option Addr) (c : Nat) (w : World) (hT : Tabs w) (hX : RdL w (Now w) xs (.slice la xs.length c)) :
  Calls Tryz.prog 45 #[.slice la xs.length c, .func (.func 46) #[] #[]] w fun e w' => e = .returned (.bool (xs.any (fun x => x.good != 0))) ∧ Below w.heap.size w w' := by
 have hc := indexV_calls xs hm la c w hT hX
 generalize xs.any (fun x => x.good != 0) = R at *
 clear hm
 go_enter Tryz.func45, Tryz.ntmps45
 go_wp2_with fail
 refine hc.mono ?_
 rintro e w1 ⟨r, rfl, hr, hd, hb⟩
 have hd := hid hd
 go_wp2_with fail
 all_goals go_ret
 all_goals exact ⟨by rw [← hd.out]; simp_all, hb⟩
end Go.Proofs.YthjihdpleclejaaGreatDoor
namespace Go.Proofs.YthjihdpleclejaaGreatDoor
open Go.RowKit Go.Proofs
theorem there_ok {tf : PVal → Chg} {v : PVal} {p : ByteArray} {also : List PVal} (h : (doneP tf false v p also).2 = 0) : thereP tf v p also = doneP tf false v p also := by
 unfold thereP; simp only [h, if_pos]
theorem there_ask {tf : PVal → Chg} {v : PVal} {p : ByteArray} {also : List PVal} (h : (doneP tf false v p also).2 ≠ 0) (ha : askP v p also ≠ 0) : thereP tf v p also = (zeroP, (doneP tf false v p also).2) := by
 unfold thereP; simp only [h, ha, if_false, ne_eq, not_false_eq_true, if_true]
theorem there_lost {tf : PVal → Chg} {v : PVal} {p : ByteArray} {also : List PVal} (h : (doneP tf false v p also).2 ≠ 0) (ha : askP v p also = 0) (hg : gotP v p = none) : thereP tf v p also = (zeroP, 8) := by
 unfold thereP; simp only [h, ha, hg, if_false, ne_eq, not_true_eq_false, if_true]
theorem there_err {tf : PVal → Chg} {v : PVal} {p : ByteArray} {also : List PVal} (h : (doneP tf false v p also).2 ≠ 0) (ha : askP v p also = 0) (hg : gotP v p ≠ none) : thereP tf v p also = (zeroP, (doneP tf false v p also).2) := by
 unfold thereP; simp only [h, ha, hg, if_false, ne_eq, not_true_eq_false]
theorem ask_bad {v : PVal} {p : ByteArray} {also : List PVal} (h : v.good ≠ 0 ∨ stepsP p = none ∨ also.any (fun x => x.good != 0) = true) : askP v p also ≠ 0 := fun e => by
 obtain ⟨h1, ⟨a, h2⟩, h3⟩ := ask_ok e
 rcases h with h | h | h
 ·exact h h1
 ·rw [h] at h2; cases h2
 ·obtain ⟨x, hx, hb⟩ := List.any_eq_true.1 h
  simp [h3 x hx] at hb
theorem Rd.free_later {w w' : World} {B : Nat} {V : PVal} {cs : List Value} (h : Rd w (Free B w) V cs) (hb : Below w.heap.size w w') : Rd w' (Free B w') V cs :=
 h.keep (fun c h => ⟨⟨h.1.1, Nat.lt_of_lt_of_le h.1.2 hb.size⟩, Warm.keep (w := w) h.2 (hb.block c h.1.2)⟩) (fun c h => hb.block c h.1.2)
set_option maxRecDepth 100000 in
set_option maxHeartbeats 8000000 in
theorem there_calls {kf : FuncId} {caps : Array Value} {tf : PVal → Chg} {T : Nat} (hgo : ∀ (args : Array Value) (w : World), (callFunc kf args).run Tryz.prog w = .ok (.enter kf args) w) (pa : ByteArray) (hpa : pa.size < 4294967281) (V : PVal) (also : List PVal) (hm : V.mass ≤ 1073741824) (hT : T ≤ 4294967296) (hT2 : 32 ≤ T) (htm : ∀ y, y.mass ≤ 1073741824 → (tf y).v.mass ≤ T) (ham : ∀ x ∈ also, x.mass ≤ 1073741824)
  {w : World} {cs : List Value} {aa : Option Addr} {ac : Nat} (hto : ∀ (w' : World), Below w.heap.size w w' → Turns (Now w') w' kf caps tf) (hTb : Tabs w) (hM : Mx w) (hV : Rd w (Now w) V cs) (hA : RdL w (Now w) also (.slice aa also.length ac)) :
  Calls Tryz.prog 27 #[.agg #[.func (.func kf) #[] caps, .bool false], .agg cs.toArray, .string pa, .slice aa also.length ac] w (Done6 (thereP tf V pa also) w) := by
 have hdn := hid (fun (w' : World) (h : Below w.heap.size w w') => done_calls (lays := false) hgo pa hpa V also hm hT hT2 htm ham (hto w' h) (Tabs.stays w w' hTb h) (hM.stays h) (hV.later h) (hA.later h))
 have hst := hid (fun (w' : World) (h : Below w.heap.size w w') => steps_calls pa w' hpa (hM.stays h))
 have hgd := hid (fun (w' : World) (h : Below w.heap.size w w') => good_mass V (by omega) w' cs (Tabs.stays w w' hTb h) (hV.later h))
 have hcf := hid (fun (w' : World) (h : Below w.heap.size w w') => containsV_calls also ham aa ac w' (Tabs.stays w w' hTb h) (hA.later h))
 have hgt := hid (fun (w' : World) (h : Below w.heap.size w w') => get_calls copy_deep pa hpa V (by omega) (Tabs.stays w w' hTb h) (hM.stays h) (hV.later h))
 have hT1 : Hid ((doneP tf false V pa also).2 = 0 → thereP tf V pa also = doneP tf false V pa also) := fun h => there_ok h
 have hTa : Hid ((doneP tf false V pa also).2 ≠ 0 → (V.good ≠ 0 ∨ stepsP pa = none ∨ also.any (fun x => x.good != 0) = true) → thereP tf V pa also = (zeroP, (doneP tf false V pa also).2)) := fun h ha => there_ask h (ask_bad ha)
 have hTl : Hid ((doneP tf false V pa also).2 ≠ 0 → ∀ a, V.good = 0 → stepsP pa = some a → also.any (fun x => x.good != 0) = false → gotP V pa = none → thereP tf V pa also = (zeroP, 8)) := fun h a h1 h2 h3 h4 => there_lost h (ask_of h1 h2 (fun x hx => by
  have := List.any_eq_false.1 h3 x hx; simpa using this)) h4
 have hTe : Hid ((doneP tf false V pa also).2 ≠ 0 → ∀ a y, V.good = 0 → stepsP pa = some a → also.any (fun x => x.good != 0) = false → gotP V pa = some y → thereP tf V pa also = (zeroP, (doneP tf false V pa also).2)) := fun h a y h1 h2 h3 h4 => there_err h (ask_of h1 h2 (fun x hx => by
  have := List.any_eq_false.1 h3 x hx; simpa using this)) (by rw [h4]; simp)
 unfold Stepped at hst
 unfold Got6 at hgt
 unfold Done6 at hdn ⊢
 obtain ⟨TR, hTR⟩ : ∃ R, R = thereP tf V pa also := ⟨_, rfl⟩
 rw [← hTR] at hT1 hTa hTl hTe ⊢
 obtain ⟨R, hR⟩ : ∃ R, R = doneP tf false V pa also := ⟨_, rfl⟩
 rw [← hR] at hdn hT1 hTa hTl hTe
 obtain ⟨GT, hGT⟩ : ∃ GT, GT = gotP V pa := ⟨_, rfl⟩
 rw [← hGT] at hgt hTl hTe
 obtain ⟨GV, hG⟩ : ∃ GV, GV = V.good := ⟨_, rfl⟩
 rw [← hG] at hgd hTa hTl hTe
 obtain ⟨Q, hQ⟩ : ∃ Q, Q = stepsP pa := ⟨_, rfl⟩
 rw [← hQ] at hst hTa hTl hTe
 obtain ⟨AN, hAN⟩ : ∃ AN, AN = also.any (fun x => x.good != 0) := ⟨_, rfl⟩
 rw [← hAN] at hcf hTa hTl hTe
 obtain ⟨rv, re⟩ := R
 simp only at hdn hT1 hTa hTl hTe
 clear hTR hR hGT hG hQ hAN hgo hto hTb hM hm hT hT2 htm ham hA hpa
 obtain ⟨k, n, str, l, fn, fv⟩ := V
 obtain ⟨la, lc, fa, fc, rfl, _⟩ := hV.inv
 clear hV
 obtain ⟨W0, hW0⟩ : ∃ W0, W0 = ((w.alloc (.cells #[.func (.func kf) #[] caps, .bool false] 50)).alloc (.cells #[.int .i64 k, .int .i64 n, .string str, .slice la l.length lc, .slice fa fv.length fc] 25)).alloc (.cells #[.int .i64 0, .int .i64 0, .string ⟨#[]⟩, .slice none 0 0, .slice none 0 0] 25) := ⟨_, rfl⟩
 have D : Hid (Below w.heap.size w W0) := by show Below _ _ _; rw [hW0]; exact ((below_new _ _).step (below_new _ _)).step (below_new _ _)
 have r4 : Hid (W0.heap[w.heap.size]? = some (.cells #[.func (.func kf) #[] caps, .bool false] 50 (0, 0))) := by show _ = _; rw [hW0]; exact al_old (al_old (al_at rfl))
 have r5 : Hid (W0.heap[w.heap.size + 1]? = some (.cells #[.int .i64 k, .int .i64 n, .string str, .slice la l.length lc, .slice fa fv.length fc] 25 (0, 0))) := by show _ = _; rw [hW0]; exact al_old (al_at (by simp))
 have r8 : Hid (W0.heap[w.heap.size + 2]? = some (.cells #[.int .i64 0, .int .i64 0, .string ⟨#[]⟩, .slice none 0 0, .slice none 0 0] 25 (0, 0))) := by show _ = _; rw [hW0]; exact al_at (by simp)
 have hW0s : Hid (w.heap.size + 2 < W0.heap.size) := lt_of_block r8.out
 go_enter Tryz.func27, Tryz.ntmps27
 go_upto_region 1 with fail
 rw [← hW0]
 clear hW0
 have b0 := box_at (j := 0) r5.out rfl
 have b1 := box_at (j := 1) r5.out rfl
 have b2 := box_at (j := 2) r5.out rfl
 have b3 := box_at (j := 3) r5.out rfl
 have b4 := box_at (j := 4) r5.out rfl
 have d0 := box_at (j := 0) r4.out rfl
 have d1 := box_at (j := 1) r4.out rfl
 go_wp2_with fail
 clear b0 b1 b2 b3 b4 d0 d1
 refine (hdn.out _ D.out).mono ?_
 rintro e w1 ⟨cs1, rfl, h1, hr1⟩
 obtain ⟨zk, zn, zt, zl, zfn, zfv⟩ := rv
 obtain ⟨qa, qc, pa', pc, rfl, _⟩ := hr1.inv
 replace D := hid (D.out.step h1)
 replace r5 := hid ((h1.block _ (lt_of_block r5.out)).trans r5.out)
 replace r8 := hid ((h1.block _ (lt_of_block r8.out)).trans r8.out)
 clear r4 h1
 go_upto_region 2 with fail
 obtain ⟨w2, hw2⟩ : ∃ x, x = w1.alloc (.cells #[.int .i64 zk, .int .i64 zn, .string zt, .slice qa zl.length qc, .slice pa' zfv.length pc] 25) := ⟨_, rfl⟩
 have N : Hid (Below w1.heap.size w1 w2) := by show Below _ _ _; rw [hw2]; exact below_new _ _
 have r10 : Hid (w2.heap[w1.heap.size]? = some (.cells #[.int .i64 zk, .int .i64 zn, .string zt, .slice qa zl.length qc, .slice pa' zfv.length pc] 25 (0, 0))) := by show _ = _; rw [hw2]; exact heap_alloc_new _ _
 rw [← hw2]
 clear hw2
 replace D := hid (D.out.step N.out)
 replace r5 := hid ((N.out.block _ (lt_of_block r5.out)).trans r5.out)
 replace r8 := hid ((N.out.block _ (lt_of_block r8.out)).trans r8.out)
 replace hr1 := hid (hr1.free_later N.out)
 clear N
 by_cases hRE : re = 0
 ·have hR := hT1.out hRE
  subst hRE hR
  clear hTa hTl hTe hT1
  have a0 := box_at (j := 0) r10.out rfl
  have a1 := box_at (j := 1) r10.out rfl
  have a2 := box_at (j := 2) r10.out rfl
  have a3 := box_at (j := 3) r10.out rfl
  have a4 := box_at (j := 4) r10.out rfl
  have c0 := box_at (j := 0) r8.out rfl
  have c1 := box_at (j := 1) r8.out rfl
  have c2 := box_at (j := 2) r8.out rfl
  have c3 := box_at (j := 3) r8.out rfl
  have c4 := box_at (j := 4) r8.out rfl
  have f0 := box_free r8.out
  go_wp2_with fail
  clear a0 a1 a2 a3 a4
  clear c0 c1 c2 c3 c4
  clear f0
  have hbz := hid (set5_below D.out (Nat.le_add_right w.heap.size 2) (.int .i64 zk) (.int .i64 zn) (.string zt) (.slice qa zl.length qc) (.slice pa' zfv.length pc))
  have rz := hid (set5_box (u0 := .int .i64 zk) (u1 := .int .i64 zn) (u2 := .string zt) (u3 := .slice qa zl.length qc) (u4 := .slice pa' zfv.length pc) r8.out)
  have hkp := hid (fun b (hb : b ≠ w.heap.size + 2) => set5_other w2 (w.heap.size + 2) (.int .i64 zk) (.int .i64 zn) (.string zt) (.slice qa zl.length qc) (.slice pa' zfv.length pc) (b := b) hb)
  have hsz9 := hid (set5_size w2 (w.heap.size + 2) (.int .i64 zk) (.int .i64 zn) (.string zt) (.slice qa zl.length qc) (.slice pa' zfv.length pc))
  unfold set5 at hbz rz hkp hsz9
  generalize ((((w2.setCell ⟨w.heap.size + 2, 0, none⟩ (.int .i64 zk)).setCell ⟨w.heap.size + 2, 1, none⟩ (.int .i64 zn)).setCell ⟨w.heap.size + 2, 2, none⟩ (.string zt)).setCell ⟨w.heap.size + 2, 3, none⟩ (.slice qa zl.length qc)).setCell ⟨w.heap.size + 2, 4, none⟩ (.slice pa' zfv.length pc) = w9 at *
  have z0 := box_at (j := 0) rz.out rfl
  have z1 := box_at (j := 1) rz.out rfl
  have z2 := box_at (j := 2) rz.out rfl
  have z3 := box_at (j := 3) rz.out rfl
  have z4 := box_at (j := 4) rz.out rfl
  refine ⟨rfl, _, by simp [results, Tryz.results27, go_sem, z0, z1, z2, z3, z4] <;> exact ⟨rfl, rfl⟩, [.int .i64 zk, .int .i64 zn, .string zt, .slice qa zl.length qc, .slice pa' zfv.length pc], rfl, hbz.out, ?_⟩
  exact hr1.out.keep (fun c h => ⟨⟨by have := h.1.1; have := hW0s.out; omega, by rw [hsz9.out]; exact h.1.2⟩, Warm.keep (w := w2) h.2 (hkp.out c (by have := h.1.1; have := hW0s.out; omega))⟩) (fun c h => hkp.out c (by have := h.1.1; have := hW0s.out; omega))
 ·have hRi : (re == 0) = false := by simp [hRE]
  clear hT1 r10 hr1
  go_wp2_with fail
  clear hRi
  refine (hst.out _ D.out).mono ?_
  rintro e w3 ⟨h3, hres⟩
  replace D := hid (D.out.step h3)
  replace r5 := hid ((h3.block _ (lt_of_block r5.out)).trans r5.out)
  replace r8 := hid ((h3.block _ (lt_of_block r8.out)).trans r8.out)
  clear h3 hst
  cases Q with
  | none =>
   simp only at hres
   subst hres
   have hR := hTa.out hRE (.inr (.inl rfl))
   subst hR
   clear hTa hTl hTe hcf hgt hgd
   have c0 := box_at (j := 0) r8.out rfl
   have c1 := box_at (j := 1) r8.out rfl
   have c2 := box_at (j := 2) r8.out rfl
   have c3 := box_at (j := 3) r8.out rfl
   have c4 := box_at (j := 4) r8.out rfl
   have f0 := box_free r8.out
   go_wp2_with fail
   clear c0 c1 c2 c3 c4
   clear f0
   have hbz := hid (set5_below D.out (Nat.le_add_right w.heap.size 2) (.int .i64 0) (.int .i64 0) (.string ⟨#[]⟩) (.slice none 0 0) (.slice none 0 0))
   have rz := hid (set5_box (u0 := .int .i64 0) (u1 := .int .i64 0) (u2 := .string ⟨#[]⟩) (u3 := .slice none 0 0) (u4 := .slice none 0 0) r8.out)
   have hkp := hid (fun b (hb : b ≠ w.heap.size + 2) => set5_other w3 (w.heap.size + 2) (.int .i64 0) (.int .i64 0) (.string ⟨#[]⟩) (.slice none 0 0) (.slice none 0 0) (b := b) hb)
   have hsz9 := hid (set5_size w3 (w.heap.size + 2) (.int .i64 0) (.int .i64 0) (.string ⟨#[]⟩) (.slice none 0 0) (.slice none 0 0))
   unfold set5 at hbz rz hkp hsz9
   generalize ((((w3.setCell ⟨w.heap.size + 2, 0, none⟩ (.int .i64 0)).setCell ⟨w.heap.size + 2, 1, none⟩ (.int .i64 0)).setCell ⟨w.heap.size + 2, 2, none⟩ (.string ⟨#[]⟩)).setCell ⟨w.heap.size + 2, 3, none⟩ (.slice none 0 0)).setCell ⟨w.heap.size + 2, 4, none⟩ (.slice none 0 0) = w9 at *
   have z0 := box_at (j := 0) rz.out rfl
   have z1 := box_at (j := 1) rz.out rfl
   have z2 := box_at (j := 2) rz.out rfl
   have z3 := box_at (j := 3) rz.out rfl
   have z4 := box_at (j := 4) rz.out rfl
   refine ⟨rfl, _, by simp [results, Tryz.results27, go_sem, z0, z1, z2, z3, z4] <;> exact ⟨rfl, rfl⟩, [.int .i64 0, .int .i64 0, .string ⟨#[]⟩, .slice none 0 0, .slice none 0 0], rfl, hbz.out, ?_⟩
   exact rd_zeroP
  | some ss =>
   obtain ⟨sv, rfl, _⟩ := hres
   have b0 := box_at (j := 0) r5.out rfl
   have b1 := box_at (j := 1) r5.out rfl
   have b2 := box_at (j := 2) r5.out rfl
   have b3 := box_at (j := 3) r5.out rfl
   have b4 := box_at (j := 4) r5.out rfl
   go_wp2_with fail
   clear b0 b1 b2 b3 b4
   refine (hgd.out _ D.out).mono ?_
   rintro e w4 ⟨rfl, h4⟩
   replace D := hid (D.out.step h4)
   replace r5 := hid ((h4.block _ (lt_of_block r5.out)).trans r5.out)
   replace r8 := hid ((h4.block _ (lt_of_block r8.out)).trans r8.out)
   clear h4 hgd
   by_cases hG0 : GV = 0
   ·subst hG0
    go_wp2_with fail
    refine (hcf.out _ D.out).mono ?_
    rintro e w5 ⟨rfl, h5⟩
    replace D := hid (D.out.step h5)
    replace r5 := hid ((h5.block _ (lt_of_block r5.out)).trans r5.out)
    replace r8 := hid ((h5.block _ (lt_of_block r8.out)).trans r8.out)
    clear h5 hcf
    cases AN with
    | true =>
     have hR := hTa.out hRE (.inr (.inr rfl))
     subst hR
     clear hTa hTl hTe hgt
     have c0 := box_at (j := 0) r8.out rfl
     have c1 := box_at (j := 1) r8.out rfl
     have c2 := box_at (j := 2) r8.out rfl
     have c3 := box_at (j := 3) r8.out rfl
     have c4 := box_at (j := 4) r8.out rfl
     have f0 := box_free r8.out
     go_wp2_with fail
     clear c0 c1 c2 c3 c4
     clear f0
     have hbz := hid (set5_below D.out (Nat.le_add_right w.heap.size 2) (.int .i64 0) (.int .i64 0) (.string ⟨#[]⟩) (.slice none 0 0) (.slice none 0 0))
     have rz := hid (set5_box (u0 := .int .i64 0) (u1 := .int .i64 0) (u2 := .string ⟨#[]⟩) (u3 := .slice none 0 0) (u4 := .slice none 0 0) r8.out)
     have hkp := hid (fun b (hb : b ≠ w.heap.size + 2) => set5_other w5 (w.heap.size + 2) (.int .i64 0) (.int .i64 0) (.string ⟨#[]⟩) (.slice none 0 0) (.slice none 0 0) (b := b) hb)
     have hsz9 := hid (set5_size w5 (w.heap.size + 2) (.int .i64 0) (.int .i64 0) (.string ⟨#[]⟩) (.slice none 0 0) (.slice none 0 0))
     unfold set5 at hbz rz hkp hsz9
     generalize ((((w5.setCell ⟨w.heap.size + 2, 0, none⟩ (.int .i64 0)).setCell ⟨w.heap.size + 2, 1, none⟩ (.int .i64 0)).setCell ⟨w.heap.size + 2, 2, none⟩ (.string ⟨#[]⟩)).setCell ⟨w.heap.size + 2, 3, none⟩ (.slice none 0 0)).setCell ⟨w.heap.size + 2, 4, none⟩ (.slice none 0 0) = w9 at *
     have z0 := box_at (j := 0) rz.out rfl
     have z1 := box_at (j := 1) rz.out rfl
     have z2 := box_at (j := 2) rz.out rfl
     have z3 := box_at (j := 3) rz.out rfl
     have z4 := box_at (j := 4) rz.out rfl
     refine ⟨rfl, _, by simp [results, Tryz.results27, go_sem, z0, z1, z2, z3, z4] <;> exact ⟨rfl, rfl⟩, [.int .i64 0, .int .i64 0, .string ⟨#[]⟩, .slice none 0 0, .slice none 0 0], rfl, hbz.out, ?_⟩
     exact rd_zeroP
    | false =>
     have b0 := box_at (j := 0) r5.out rfl
     have b1 := box_at (j := 1) r5.out rfl
     have b2 := box_at (j := 2) r5.out rfl
     have b3 := box_at (j := 3) r5.out rfl
     have b4 := box_at (j := 4) r5.out rfl
     go_wp2_with fail
     clear b0 b1 b2 b3 b4
     refine (hgt.out _ D.out).mono ?_
     rintro e w6 ⟨cs6, rfl, h6, hr6⟩
     obtain ⟨XX, hXX⟩ : ∃ XX, XX = GT.getD zeroP := ⟨_, rfl⟩
     rw [← hXX] at hr6
     obtain ⟨xk, xn, xt, xl, xfn, xfv⟩ := XX
     obtain ⟨ya, yc, za, zc, rfl, _⟩ := hr6.inv
     replace D := hid (D.out.step h6)
     replace r8 := hid ((h6.block _ (lt_of_block r8.out)).trans r8.out)
     clear h6 hr6 hXX r5 hgt
     go_upto_region 8 with fail
     obtain ⟨w7, hw7⟩ : ∃ x, x = w6.alloc (.cells #[.int .i64 xk, .int .i64 xn, .string xt, .slice ya xl.length yc, .slice za xfv.length zc] 25) := ⟨_, rfl⟩
     have N : Hid (Below w6.heap.size w6 w7) := by show Below _ _ _; rw [hw7]; exact below_new _ _
     rw [← hw7]
     clear hw7
     replace D := hid (D.out.step N.out)
     replace r8 := hid ((N.out.block _ (lt_of_block r8.out)).trans r8.out)
     clear N
     cases GT with
     | none =>
      have hR := hTl.out hRE ss (by simp) (by simp) (by simp) (by simp)
      subst hR
      clear hTa hTl hTe
      have c0 := box_at (j := 0) r8.out rfl
      have c1 := box_at (j := 1) r8.out rfl
      have c2 := box_at (j := 2) r8.out rfl
      have c3 := box_at (j := 3) r8.out rfl
      have c4 := box_at (j := 4) r8.out rfl
      have f0 := box_free r8.out
      go_wp2_with fail
      clear c0 c1 c2 c3 c4
      clear f0
      have hbz := hid (set5_below D.out (Nat.le_add_right w.heap.size 2) (.int .i64 0) (.int .i64 0) (.string ⟨#[]⟩) (.slice none 0 0) (.slice none 0 0))
      have rz := hid (set5_box (u0 := .int .i64 0) (u1 := .int .i64 0) (u2 := .string ⟨#[]⟩) (u3 := .slice none 0 0) (u4 := .slice none 0 0) r8.out)
      have hkp := hid (fun b (hb : b ≠ w.heap.size + 2) => set5_other w7 (w.heap.size + 2) (.int .i64 0) (.int .i64 0) (.string ⟨#[]⟩) (.slice none 0 0) (.slice none 0 0) (b := b) hb)
      have hsz9 := hid (set5_size w7 (w.heap.size + 2) (.int .i64 0) (.int .i64 0) (.string ⟨#[]⟩) (.slice none 0 0) (.slice none 0 0))
      unfold set5 at hbz rz hkp hsz9
      generalize ((((w7.setCell ⟨w.heap.size + 2, 0, none⟩ (.int .i64 0)).setCell ⟨w.heap.size + 2, 1, none⟩ (.int .i64 0)).setCell ⟨w.heap.size + 2, 2, none⟩ (.string ⟨#[]⟩)).setCell ⟨w.heap.size + 2, 3, none⟩ (.slice none 0 0)).setCell ⟨w.heap.size + 2, 4, none⟩ (.slice none 0 0) = w9 at *
      have z0 := box_at (j := 0) rz.out rfl
      have z1 := box_at (j := 1) rz.out rfl
      have z2 := box_at (j := 2) rz.out rfl
      have z3 := box_at (j := 3) rz.out rfl
      have z4 := box_at (j := 4) rz.out rfl
      refine ⟨rfl, _, by simp [results, Tryz.results27, go_sem, z0, z1, z2, z3, z4] <;> exact ⟨rfl, rfl⟩, [.int .i64 0, .int .i64 0, .string ⟨#[]⟩, .slice none 0 0, .slice none 0 0], rfl, hbz.out, ?_⟩
      exact rd_zeroP
     | some y =>
      have hR := hTe.out hRE ss y (by simp) (by simp) (by simp) (by simp)
      subst hR
      clear hTa hTl hTe
      have c0 := box_at (j := 0) r8.out rfl
      have c1 := box_at (j := 1) r8.out rfl
      have c2 := box_at (j := 2) r8.out rfl
      have c3 := box_at (j := 3) r8.out rfl
      have c4 := box_at (j := 4) r8.out rfl
      have f0 := box_free r8.out
      go_wp2_with fail
      clear c0 c1 c2 c3 c4
      clear f0
      have hbz := hid (set5_below D.out (Nat.le_add_right w.heap.size 2) (.int .i64 0) (.int .i64 0) (.string ⟨#[]⟩) (.slice none 0 0) (.slice none 0 0))
      have rz := hid (set5_box (u0 := .int .i64 0) (u1 := .int .i64 0) (u2 := .string ⟨#[]⟩) (u3 := .slice none 0 0) (u4 := .slice none 0 0) r8.out)
      have hkp := hid (fun b (hb : b ≠ w.heap.size + 2) => set5_other w7 (w.heap.size + 2) (.int .i64 0) (.int .i64 0) (.string ⟨#[]⟩) (.slice none 0 0) (.slice none 0 0) (b := b) hb)
      have hsz9 := hid (set5_size w7 (w.heap.size + 2) (.int .i64 0) (.int .i64 0) (.string ⟨#[]⟩) (.slice none 0 0) (.slice none 0 0))
      unfold set5 at hbz rz hkp hsz9
      generalize ((((w7.setCell ⟨w.heap.size + 2, 0, none⟩ (.int .i64 0)).setCell ⟨w.heap.size + 2, 1, none⟩ (.int .i64 0)).setCell ⟨w.heap.size + 2, 2, none⟩ (.string ⟨#[]⟩)).setCell ⟨w.heap.size + 2, 3, none⟩ (.slice none 0 0)).setCell ⟨w.heap.size + 2, 4, none⟩ (.slice none 0 0) = w9 at *
      have z0 := box_at (j := 0) rz.out rfl
      have z1 := box_at (j := 1) rz.out rfl
      have z2 := box_at (j := 2) rz.out rfl
      have z3 := box_at (j := 3) rz.out rfl
      have z4 := box_at (j := 4) rz.out rfl
      refine ⟨rfl, _, by simp [results, Tryz.results27, go_sem, z0, z1, z2, z3, z4] <;> exact ⟨rfl, rfl⟩, [.int .i64 0, .int .i64 0, .string ⟨#[]⟩, .slice none 0 0, .slice none 0 0], rfl, hbz.out, ?_⟩
      exact rd_zeroP
   ·have hR := hTa.out hRE (.inl hG0)
    subst hR
    have hGi : (GV != 0) = true := by simp [hG0]
    clear hTa hTl hTe hcf hgt hG0
    have c0 := box_at (j := 0) r8.out rfl
    have c1 := box_at (j := 1) r8.out rfl
    have c2 := box_at (j := 2) r8.out rfl
    have c3 := box_at (j := 3) r8.out rfl
    have c4 := box_at (j := 4) r8.out rfl
    have f0 := box_free r8.out
    go_wp2_with fail
    clear c0 c1 c2 c3 c4
    clear f0
    have hbz := hid (set5_below D.out (Nat.le_add_right w.heap.size 2) (.int .i64 0) (.int .i64 0) (.string ⟨#[]⟩) (.slice none 0 0) (.slice none 0 0))
    have rz := hid (set5_box (u0 := .int .i64 0) (u1 := .int .i64 0) (u2 := .string ⟨#[]⟩) (u3 := .slice none 0 0) (u4 := .slice none 0 0) r8.out)
    have hkp := hid (fun b (hb : b ≠ w.heap.size + 2) => set5_other w4 (w.heap.size + 2) (.int .i64 0) (.int .i64 0) (.string ⟨#[]⟩) (.slice none 0 0) (.slice none 0 0) (b := b) hb)
    have hsz9 := hid (set5_size w4 (w.heap.size + 2) (.int .i64 0) (.int .i64 0) (.string ⟨#[]⟩) (.slice none 0 0) (.slice none 0 0))
    unfold set5 at hbz rz hkp hsz9
    generalize ((((w4.setCell ⟨w.heap.size + 2, 0, none⟩ (.int .i64 0)).setCell ⟨w.heap.size + 2, 1, none⟩ (.int .i64 0)).setCell ⟨w.heap.size + 2, 2, none⟩ (.string ⟨#[]⟩)).setCell ⟨w.heap.size + 2, 3, none⟩ (.slice none 0 0)).setCell ⟨w.heap.size + 2, 4, none⟩ (.slice none 0 0) = w9 at *
    have z0 := box_at (j := 0) rz.out rfl
    have z1 := box_at (j := 1) rz.out rfl
    have z2 := box_at (j := 2) rz.out rfl
    have z3 := box_at (j := 3) rz.out rfl
    have z4 := box_at (j := 4) rz.out rfl
    refine ⟨rfl, _, by simp [results, Tryz.results27, go_sem, z0, z1, z2, z3, z4] <;> exact ⟨rfl, rfl⟩, [.int .i64 0, .int .i64 0, .string ⟨#[]⟩, .slice none 0 0, .slice none 0 0], rfl, hbz.out, ?_⟩
    exact rd_zeroP
end Go.Proofs.YthjihdpleclejaaGreatDoor
