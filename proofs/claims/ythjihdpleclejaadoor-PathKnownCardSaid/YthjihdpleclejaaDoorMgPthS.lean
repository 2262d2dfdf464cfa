/-
  Plain: sums; what is pushed. No condition.
  Walk: the law PathSums. No condition.
-/
import Derived.Test.YthjihdpleclejaaDoorMgPthV
import Derived.Test.YthjihdpleclejaaDoorMgPthF
import Derived.Test.YthjihdpleclejaaDoorMgPth32
namespace Go.Proofs.YthjihdpleclejaaDoor

theorem atP_point {tf : PVal → Chg} {lays : Bool} : ∀ (a : List ByteArray) (v x : PVal), getP v a = some x → atP tf lays v a = atP (fun _ => tf x) lays v a
  | [], v, x, h => by
    rw [atP_nil, atP_nil]
    rw [getP] at h
    injection h with h
    rw [h]
  | s :: r, v, x, h => by
    obtain ⟨y, hy, hr⟩ := getP_cons h
    have ih := atP_point (tf := tf) (lays := lays) r y x hr
    unfold leads at hy
    rw [atP_cons, atP_cons]
    cases hp : place s with
    | some n =>
      rw [hp] at hy
      simp only at hy
      by_cases hk : v.k = 5
      · rw [if_pos hk] at hy
        simp only [hy, ih]
      · rw [if_neg hk] at hy; cases hy
    | none =>
      rw [hp] at hy
      simp only at hy
      by_cases hk : v.k = 6
      · rw [if_pos hk] at hy
        simp only [hy, ih]
      · rw [if_neg hk] at hy; cases hy
theorem there_done {tf : PVal → Chg} {v : PVal} {p : ByteArray} {also : List PVal} (h : (thereP tf v p also).2 = 0) : (doneP tf false v p also).2 = 0 ∧ thereP tf v p also = doneP tf false v p also := by
  by_cases h1 : (doneP tf false v p also).2 = 0
  · exact ⟨h1, by unfold thereP; simp only [h1, if_true]⟩
  · unfold thereP at h
    simp only [h1, if_false] at h
    split at h
    · exact absurd h h1
    · split at h
      · simp at h
      · exact absurd h h1
theorem there_bad {tf : PVal → Chg} {v : PVal} {p : ByteArray} {also : List PVal} (h : (thereP tf v p also).2 ≠ 0) : (thereP tf v p also).1 = zeroP := by
  unfold thereP at *
  by_cases h1 : (doneP tf false v p also).2 = 0
  · simp only [h1, if_true] at h
    simp at h
  · simp only [h1, if_false]
    split
    · rfl
    · split <;> rfl
theorem there_mass {tf : PVal → Chg} {v : PVal} {p : ByteArray} {also : List PVal} {M T : Nat} (hM : 32 ≤ M) (hT : 32 ≤ T) (hto : ∀ y, y.mass ≤ M → (tf y).v.mass ≤ T) (hv : v.mass ≤ M) : (thereP tf v p also).1.mass ≤ T + 8 * (M + 200) := by
  by_cases h : (thereP tf v p also).2 = 0
  · rw [(there_done h).2]; exact done_mass hM hT hto hv
  · rw [there_bad h, mass_zeroP]; omega
theorem lost_none {tf : PVal → Chg} {v : PVal} {l : List ByteArray} (h : (atP tf false v l).e = 0) : ∃ y, getP v l = some y := by
  cases hg : getP v l with
  | none => exact absurd h (atP_lost l v hg)
  | some y => exact ⟨y, rfl⟩
theorem add_ok {V : PVal} {p : ByteArray} {n : Int} (h : (addP V p n).2 = 0) : V.good = 0 ∧ ∃ l y, stepsP p = some l ∧ getP V l = some y ∧ y.k = 3 ∧ ¬ (y.n + n < -9223372036854775808 ∨ 9223372036854775807 < y.n + n) ∧ (addP V p n).1 = (atP (fun _ => ⟨intV (y.n + n), false, 0⟩) false V l).v ∧ (addP V p n).1.good = 0 := by
  obtain ⟨h1, h2⟩ := there_done h
  have ha : addP V p n = doneP (toAdd n) false V p [] := h2
  obtain ⟨h3, _, l, h4, h5, h6, h7⟩ := done_ok h1
  obtain ⟨y, hy⟩ := lost_none h5
  have he : (toAdd n y).e = 0 := by rw [← atP_e false l V y hy]; exact h5
  have hp := atP_point (tf := toAdd n) (lays := false) l V y hy
  rw [ha]
  unfold toAdd at he
  by_cases hk : y.k = 3
  · rw [if_neg (by simp [hk])] at he
    by_cases hr : y.n + n < -9223372036854775808 ∨ 9223372036854775807 < y.n + n
    · rw [if_pos hr] at he; simp at he
    · refine ⟨h3, l, y, h4, hy, hk, hr, ?_, h7⟩
      rw [← h6, hp]
      have : toAdd n y = ⟨intV (y.n + n), false, 0⟩ := by unfold toAdd; rw [if_neg (by simp [hk]), if_neg hr]
      rw [this]
  · rw [if_pos hk] at he; simp at he
theorem sums_add {V : PVal} {p : ByteArray} {a b : Int} (hV : V.fits) (h1 : (addP V p a).2 = 0) (h2 : (addP (addP V p a).1 p b).2 = 0) : addP V p (a + b) = ((addP (addP V p a).1 p b).1, 0) := by
  obtain ⟨g1, l, y, e1, e2, e3, e4, e5, e6⟩ := add_ok h1
  obtain ⟨_, l2, y2, f1, f2, f3, f4, f5, f6⟩ := add_ok h2
  obtain rfl : l2 = l := by rw [e1] at f1; injection f1 with f1; exact f1.symm
  have hs : Sound V := ⟨hV, ((good_iff V).1 g1).1⟩
  have hq : (atP (fun _ => (⟨intV (y.n + a), false, 0⟩ : Chg)) false V l2).e = 0 := atP_e false l2 V y e2
  obtain ⟨_, hg, _⟩ := set_got (tf := fun _ => (⟨intV (y.n + a), false, 0⟩ : Chg)) (fun _ => rfl) false l2 V hs hq
  rw [e5, hg] at f2
  injection f2 with f2
  have hn : y2.n = y.n + a := by rw [← f2]; rfl
  rw [hn] at f4 f5
  have ht := set_twice (lays := false) (fun _ => (⟨intV (y.n + a), false, 0⟩ : Chg)) (fun _ => (⟨intV (y.n + a + b), false, 0⟩ : Chg)) (fun _ => rfl) (fun _ => rfl) l2 V y hs e2
  rw [f5, e5, ht] at f6 ⊢
  have hab : y.n + (a + b) = y.n + a + b := by omega
  have ha : toAdd (a + b) y = ⟨intV (y.n + a + b), false, 0⟩ := by unfold toAdd; rw [if_neg (by simp [e3]), hab, if_neg f4]
  have hp : atP (toAdd (a + b)) false V l2 = atP (fun _ => ⟨intV (y.n + a + b), false, 0⟩) false V l2 := by rw [atP_point l2 V y e2, ha]
  have hd := done_of (tf := toAdd (a + b)) (lays := false) (v := V) (p := p) (also := []) g1 e1 (fun x hx => by simp at hx) (by rw [hp]; exact atP_e false l2 V y e2) (by rw [hp]; exact f6)
  rw [hp] at hd
  unfold addP thereP
  simp only [hd, if_true]
theorem push_ok {V x : PVal} {p : ByteArray} (hV : V.fits) (h : (pushP V p x).2 = 0) : ∃ y, gotP V p = some y ∧ gotP (pushP V p x).1 p = some (listV (y.l ++ [x])) := by
  obtain ⟨h1, h2⟩ := there_done h
  have ha : pushP V p x = doneP (toPush x) false V p [x] := h2
  obtain ⟨h3, _, l, h4, h5, h6, h7⟩ := done_ok h1
  obtain ⟨y, hy⟩ := lost_none h5
  have he : (toPush x y).e = 0 := by rw [← atP_e false l V y hy]; exact h5
  have hp := atP_point (tf := toPush x) (lays := false) l V y hy
  have hs : Sound V := ⟨hV, ((good_iff V).1 h3).1⟩
  rw [ha]
  refine ⟨y, by rw [got_good h3 h4]; exact hy, ?_⟩
  rw [got_good h7 h4, ← h6, hp]
  have hk : y.k = 5 := by
    by_cases hk : y.k = 5
    · exact hk
    · unfold toPush at he; rw [if_pos hk] at he; simp at he
  have ht : toPush x y = ⟨listV (y.l ++ [x]), false, 0⟩ := by unfold toPush; rw [if_neg (by simp [hk])]
  rw [ht]
  obtain ⟨_, hg, _⟩ := set_got (tf := fun _ => (⟨listV (y.l ++ [x]), false, 0⟩ : Chg)) (fun _ => rfl) false l V hs (atP_e false l V y hy)
  exact hg
end Go.Proofs.YthjihdpleclejaaDoor

namespace Go.Proofs.YthjihdpleclejaaDoor
open Go.RowKit Go.Proofs

theorem rd_looseL {w : World} {S : Nat → Prop} {l : List PVal} {la : Option Addr} {c : Nat} (h : RdL w S l (.slice la l.length c)) : Rd w S (.mk 0 0 ByteArray.empty l [] []) [.int .i64 0, .int .i64 0, .string ByteArray.empty, .slice la l.length c, .slice none 0 0] :=
  rd_mk ⟨by decide, by decide⟩ ⟨by decide, by decide⟩ (by decide) h rdF_nil
set_option maxRecDepth 100000 in
theorem rlist6_calls (l : List PVal) {w : World} {la la' : Option Addr} {c c' : Nat} (h : RdL w (Now w) l (.slice la l.length c)) (h' : RdL w (Now w) l (.slice la' l.length c')) :
    Calls Tryd.prog 25 #[.slice la l.length c, .slice la' l.length c'] w fun e w' => e = .returned (.bool true) ∧ Below w.heap.size w w' := by
  have hs := hid (same_calls (.mk 0 0 ByteArray.empty l [] []) (.mk 0 0 ByteArray.empty l [] []) true (by simp) w _ _ (rd_looseL h) (rd_looseL h'))
  clear h h'
  go_enter Tryd.func25, Tryd.ntmps25
  go_wp2_with fail
  refine hs.out.mono ?_
  rintro e w1 ⟨rfl, h1⟩
  go_wp2_with fail
  go_ret
  exact ⟨rfl, h1⟩
/-- A List but its last value. -/
theorem rdL_front {w : World} {S : Nat → Prop} {l : List PVal} {x : PVal} {la : Option Addr} {n c : Nat} (h : RdL w S (l ++ [x]) (.slice la n c)) : RdL w S l (.slice la l.length c) := by
  obtain ⟨la', cap, cs, hv, h1, h2, h3, h4⟩ := h
  injection hv with e1 e2 e3
  subst e1 e3
  rw [List.length_append, List.length_singleton] at h1 h2 h3
  refine ⟨_, _, cs, rfl, by omega, ⟨h2.1, by omega⟩, ?_, fun i y hy => h4 i y ?_⟩
  · rcases h3 with h0 | ⟨b, off, e, hb, hc⟩
    · omega
    · exact .inr ⟨b, off, e, hb, fun i hi => hc i (by omega)⟩
  · rw [List.getElem?_append_left (List.getElem?_eq_some_iff.1 hy).1]; exact hy
/-- What PathSums leans on. -/
theorem sums_fact {V : PVal} {p : ByteArray} {a b : Int} (hV : V.fits) (h1 : (addP V p a).2 = 0) (h2 : (addP (addP V p a).1 p b).2 = 0) : (addP V p (a + b)).2 = 0 ∧ (addP V p (a + b)).1 = (addP (addP V p a).1 p b).1 := by
  rw [sums_add hV h1 h2]; exact ⟨rfl, rfl⟩
theorem push_fact {V x : PVal} {p : ByteArray} (hV : V.fits) (h : (pushP V p x).2 = 0) : (gotP (pushP V p x).1 p).isSome = true ∧ (gotP (pushP V p x).1 p).getD zeroP = listV (((gotP V p).getD zeroP).l ++ [x]) := by
  obtain ⟨y, h1, h2⟩ := push_ok hV h
  rw [h1, h2]; exact ⟨rfl, rfl⟩

set_option maxRecDepth 100000 in
set_option maxHeartbeats 8000000 in
theorem sums_calls (V0 X0 : PVal) (a b : Int) (ha : -2147483648 ≤ a ∧ a ≤ 2147483647) (hb : -2147483648 ≤ b ∧ b ≤ 2147483647) (hm : V0.mass ≤ 33554432) (hmx : X0.mass ≤ 33554432) (pa : ByteArray) (hpa : pa.size < 4294967281) {w : World} {cs xs : List Value} (hT : Tabs w) (hM : Mx w) (hV : Rd w (Now w) V0 cs) (hx : Rd w (Now w) X0 xs) :
    Calls Tryd.prog 7 #[.agg cs.toArray, .string pa, .int .i32 a, .int .i32 b, .agg xs.toArray] w fun e w' => e = .returned (.bool true) ∧ Below w.heap.size w w' := by
  have hva := hid (fun la c' w h => vast_calls [V0, X0] la c' w h (by simp))
  have hms : (addP V0 pa a).1.mass ≤ 268437088 := by
    have := there_mass (tf := toAdd a) (v := V0) (p := pa) (also := []) (M := 33554432) (T := 32) (by omega) (by omega) (fun y _ => toAdd_mass a y) hm
    unfold addP; omega
  have hmw : (pushP V0 pa X0).1.mass ≤ 1000000000000 := by
    have := there_mass (tf := toPush X0) (v := V0) (p := pa) (also := [X0]) (M := 33554432) (T := 67108896) (by omega) (by omega) (fun y hy => by have := toPush_mass X0 y; omega) hm
    unfold pushP; omega
  have ha1 := hid (fun (w' : World) cs (h : Below w.heap.size w w') hv => add_calls pa hpa V0 a (by omega) (by omega) (w := w') (cs := cs) (Tabs.stays w w' hT h) (hM.stays h) hv)
  have ha2 := hid (fun (w' : World) cs (h : Below w.heap.size w w') hv => add_calls pa hpa (addP V0 pa a).1 b (by omega) (by omega) (w := w') (cs := cs) (Tabs.stays w w' hT h) (hM.stays h) hv)
  have ha3 := hid (fun (w' : World) cs (h : Below w.heap.size w w') hv => add_calls pa hpa V0 (a + b) (by omega) (by omega) (w := w') (cs := cs) (Tabs.stays w w' hT h) (hM.stays h) hv)
  have hpu := hid (fun (w' : World) cs xs (h : Below w.heap.size w w') hv hx => push_calls pa hpa V0 X0 hm hmx (w := w') (cs := cs) (xs := xs) (Tabs.stays w w' hT h) (hM.stays h) hv hx)
  have hgt := hid (fun (U : PVal) (hU : U.mass ≤ 1000000000000) (w' : World) cs (h : Below w.heap.size w w') hx => get_calls copy_deep pa hpa U hU (w := w') (cs := cs) (Tabs.stays w w' hT h) (hM.stays h) hx)
  have haw := hid (fun (w' : World) (h : Below w.heap.size w w') => awake6_calls w' (Tabs.stays w w' hT h) (hM.stays h))
  have hsm := hid (fun (V : PVal) w cs cs' h h' => same6_calls V V true (by simp) w cs cs' h h')
  have hze := hid (fun w cs h => zero6_calls zeroP true (by simp) w cs h)
  have hS : Hid ((addP V0 pa a).2 = 0 → (addP (addP V0 pa a).1 pa b).2 = 0 → (addP V0 pa (a + b)).2 = 0 ∧ (addP V0 pa (a + b)).1 = (addP (addP V0 pa a).1 pa b).1) := fun h1 h2 => sums_fact hV.fits h1 h2
  have hB : Hid ((pushP V0 pa X0).2 ≠ 0 → (pushP V0 pa X0).1 = zeroP) := fun h => there_bad h
  have hP : Hid ((pushP V0 pa X0).2 = 0 → (gotP (pushP V0 pa X0).1 pa).isSome = true ∧ (gotP (pushP V0 pa X0).1 pa).getD zeroP = listV (((gotP V0 pa).getD zeroP).l ++ [X0])) := fun h => push_fact hV.fits h
  unfold Done6 at ha1 ha2 ha3 hpu
  have hgv := hid (hgt.out V0 (by omega))
  have hgw := hid (hgt.out (pushP V0 pa X0).1 hmw)
  unfold Got6 at hgv hgw
  have ea : IntKind.i64.wrap a = a := IntWalk.i64_in _ (by omega)
  have eb : IntKind.i64.wrap b = b := IntWalk.i64_in _ (by omega)
  have eab : IntKind.i64.wrap (a + b) = a + b := IntWalk.i64_in _ (by omega)
  obtain ⟨UR, hUR⟩ : ∃ R, R = addP V0 pa (a + b) := ⟨_, rfl⟩
  rw [← hUR] at ha3 hS
  obtain ⟨TR, hTR⟩ : ∃ R, R = addP (addP V0 pa a).1 pa b := ⟨_, rfl⟩
  rw [← hTR] at ha2 hS
  obtain ⟨SR, hSR⟩ : ∃ R, R = addP V0 pa a := ⟨_, rfl⟩
  rw [← hSR] at ha1 ha2 hS
  obtain ⟨GW, hGW⟩ : ∃ R, R = gotP (pushP V0 pa X0).1 pa := ⟨_, rfl⟩
  rw [← hGW] at hgw hP
  obtain ⟨WR, hWR⟩ : ∃ R, R = pushP V0 pa X0 := ⟨_, rfl⟩
  rw [← hWR] at hpu hB hP hgw
  obtain ⟨GV, hGV⟩ : ∃ R, R = gotP V0 pa := ⟨_, rfl⟩
  rw [← hGV] at hgv hP
  obtain ⟨O0, hO0⟩ : ∃ R, R = GV.getD zeroP := ⟨_, rfl⟩
  obtain ⟨IS, hIS⟩ : ∃ R, R = GV.isSome := ⟨_, rfl⟩
  rw [← hO0] at hgv hP
  rw [← hIS] at hgv
  obtain ⟨N1, hN1⟩ : ∃ R, R = GW.getD zeroP := ⟨_, rfl⟩
  obtain ⟨IW, hIW⟩ : ∃ R, R = GW.isSome := ⟨_, rfl⟩
  rw [← hN1, ← hIW] at hgw hP
  obtain ⟨UV, UE⟩ := UR
  obtain ⟨TV, TE⟩ := TR
  obtain ⟨SV, SE⟩ := SR
  obtain ⟨WV, WE⟩ := WR
  simp only at ha1 ha2 ha3 hpu hS hB hP hgw
  clear hUR hTR hSR hWR hGW hGV hO0 hIS hN1 hIW hT hM hm hmx hms hmw hgt ha hb
  have xV := hid hV
  have xU := hid hx
  generalize vast [V0, X0] = T at *
  obtain ⟨vk, vn, vt, va, vl, vc, vf, vm, vg, rfl⟩ := hV.cells5
  obtain ⟨uk, un, ut, ua, ul, uc, uf, um, ug, rfl⟩ := hx.cells5
  clear hV hx
  go_enter Tryd.func7, Tryd.ntmps7
  have D := hid (Below.refl w.heap.size w)
  go_upto_region 1 with fail
  obtain ⟨w1, hw_⟩ : ∃ x, x = (w.alloc (.cells #[.int .i64 vk, .int .i64 vn, .string vt, .slice va vl vc, .slice vf vm vg] 25)).alloc (.cells #[.int .i64 uk, .int .i64 un, .string ut, .slice ua ul uc, .slice uf um ug] 25) := ⟨_, rfl⟩
  have N : Hid (Below w.heap.size w w1) := by show Below _ _ _; rw [hw_]; exact (below_new _ _).step (below_new _ _)
  have r5_ : Hid (w1.heap[w.heap.size]? = some (.cells #[.int .i64 vk, .int .i64 vn, .string vt, .slice va vl vc, .slice vf vm vg] 25 (0, 0))) := by show _ = _; rw [hw_]; exact al_old (al_at rfl)
  have r9_ : Hid (w1.heap[w.heap.size + 1]? = some (.cells #[.int .i64 uk, .int .i64 un, .string ut, .slice ua ul uc, .slice uf um ug] 25 (0, 0))) := by show _ = _; rw [hw_]; exact al_at (by simp)
  rw [← hw_]
  clear hw_
  replace D := hid (D.out.step N.out)
  replace xV := hid (xV.out.later N.out)
  replace xU := hid (xU.out.later N.out)
  clear N
  have r5 := r5_
  have r9 := r9_
  clear r5_ r9_
  go_wp2_with fail
  refine (haw.out _ D.out).mono ?_
  rintro e w2 ⟨rfl, N0⟩
  have N := hid N0
  clear N0
  replace D := hid (D.out.step N.out)
  replace r5 := hid ((N.out.block _ (lt_of_block r5.out)).trans r5.out)
  replace r9 := hid ((N.out.block _ (lt_of_block r9.out)).trans r9.out)
  replace xV := hid (xV.out.later N.out)
  replace xU := hid (xU.out.later N.out)
  clear N
  have a5_0 := box_at (j := 0) r5.out rfl
  have a5_1 := box_at (j := 1) r5.out rfl
  have a5_2 := box_at (j := 2) r5.out rfl
  have a5_3 := box_at (j := 3) r5.out rfl
  have a5_4 := box_at (j := 4) r5.out rfl
  have a9_0 := box_at (j := 0) r9.out rfl
  have a9_1 := box_at (j := 1) r9.out rfl
  have a9_2 := box_at (j := 2) r9.out rfl
  have a9_3 := box_at (j := 3) r9.out rfl
  have a9_4 := box_at (j := 4) r9.out rfl
  go_wp2_with fail
  refine (hva.out (some ⟨w2.heap.size, 0, none⟩) 2 _ (rdL_pair (x := V0) (y := X0) (al_at (o := (.cells #[.int .i64 vk, .int .i64 vn, .string vt, .slice va vl vc, .slice vf vm vg, .int .i64 uk, .int .i64 un, .string ut, .slice ua ul uc, .slice uf um ug] 25)) rfl) (lt_of_block (al_at (o := (.cells #[.int .i64 vk, .int .i64 vn, .string vt, .slice va vl vc, .slice vf vm vg, .int .i64 uk, .int .i64 un, .string ut, .slice ua ul uc, .slice uf um ug] 25)) rfl)) (xV.out.later (below_new _ _)) (xU.out.later (below_new _ _)))).mono ?_
  rintro e w3 ⟨rfl, N0⟩
  clear a5_0 a5_1 a5_2 a5_3 a5_4 a9_0 a9_1 a9_2 a9_3 a9_4
  replace N0 := (below_new w2 (.cells #[.int .i64 vk, .int .i64 vn, .string vt, .slice va vl vc, .slice vf vm vg, .int .i64 uk, .int .i64 un, .string ut, .slice ua ul uc, .slice uf um ug] 25)).step N0
  have N := hid N0
  clear N0
  replace D := hid (D.out.step N.out)
  replace r5 := hid ((N.out.block _ (lt_of_block r5.out)).trans r5.out)
  replace r9 := hid ((N.out.block _ (lt_of_block r9.out)).trans r9.out)
  replace xV := hid (xV.out.later N.out)
  replace xU := hid (xU.out.later N.out)
  clear N
  cases T with
  | true =>
    go_wp2_with fail
    go_ret
    exact ⟨rfl, D.out⟩
  | false =>
  have a5_0 := box_at (j := 0) r5.out rfl
  have a5_1 := box_at (j := 1) r5.out rfl
  have a5_2 := box_at (j := 2) r5.out rfl
  have a5_3 := box_at (j := 3) r5.out rfl
  have a5_4 := box_at (j := 4) r5.out rfl
  go_wp2_with fail
  refine (ha1.out _ _ D.out xV.out).mono ?_
  rintro e w4 ⟨cs_, rfl, N0, xs_⟩
  clear a5_0 a5_1 a5_2 a5_3 a5_4
  obtain ⟨sk, sn, st, sa, sl, sc, sf, sm, sg, rfl⟩ := xs_.cells5
  replace xs_ := hid xs_.now_free
  have N := hid N0
  clear N0
  replace D := hid (D.out.step N.out)
  replace r5 := hid ((N.out.block _ (lt_of_block r5.out)).trans r5.out)
  replace r9 := hid ((N.out.block _ (lt_of_block r9.out)).trans r9.out)
  replace xV := hid (xV.out.later N.out)
  replace xU := hid (xU.out.later N.out)
  have xs := xs_
  clear xs_
  clear N
  go_upto_region 6 with fail
  obtain ⟨w5, hw_⟩ : ∃ x, x = w4.alloc (.cells #[.int .i64 sk, .int .i64 sn, .string st, .slice sa sl sc, .slice sf sm sg] 25) := ⟨_, rfl⟩
  have N : Hid (Below w4.heap.size w4 w5) := by show Below _ _ _; rw [hw_]; exact below_new _ _
  have r11_ : Hid (w5.heap[w4.heap.size]? = some (.cells #[.int .i64 sk, .int .i64 sn, .string st, .slice sa sl sc, .slice sf sm sg] 25 (0, 0))) := by show _ = _; rw [hw_]; exact heap_alloc_new _ _
  rw [← hw_]
  clear hw_
  replace D := hid (D.out.step N.out)
  replace r5 := hid ((N.out.block _ (lt_of_block r5.out)).trans r5.out)
  replace r9 := hid ((N.out.block _ (lt_of_block r9.out)).trans r9.out)
  replace xV := hid (xV.out.later N.out)
  replace xU := hid (xU.out.later N.out)
  replace xs := hid (xs.out.later N.out)
  clear N
  have r11 := r11_
  clear r11_
  have a11_0 := box_at (j := 0) r11.out rfl
  have a11_1 := box_at (j := 1) r11.out rfl
  have a11_2 := box_at (j := 2) r11.out rfl
  have a11_3 := box_at (j := 3) r11.out rfl
  have a11_4 := box_at (j := 4) r11.out rfl
  go_wp2_with fail
  refine (ha2.out _ _ D.out xs.out).mono ?_
  rintro e w6 ⟨cs_, rfl, N0, xt_⟩
  clear a11_0 a11_1 a11_2 a11_3 a11_4
  obtain ⟨tk, tn, tt, ta, tl, tc, tf, tm, tg, rfl⟩ := xt_.cells5
  replace xt_ := hid xt_.now_free
  have N := hid N0
  clear N0
  replace D := hid (D.out.step N.out)
  replace r5 := hid ((N.out.block _ (lt_of_block r5.out)).trans r5.out)
  replace r9 := hid ((N.out.block _ (lt_of_block r9.out)).trans r9.out)
  replace r11 := hid ((N.out.block _ (lt_of_block r11.out)).trans r11.out)
  replace xV := hid (xV.out.later N.out)
  replace xU := hid (xU.out.later N.out)
  replace xs := hid (xs.out.later N.out)
  have xt := xt_
  clear xt_
  clear N
  go_upto_region 7 with fail
  obtain ⟨w7, hw_⟩ : ∃ x, x = w6.alloc (.cells #[.int .i64 tk, .int .i64 tn, .string tt, .slice ta tl tc, .slice tf tm tg] 25) := ⟨_, rfl⟩
  have N : Hid (Below w6.heap.size w6 w7) := by show Below _ _ _; rw [hw_]; exact below_new _ _
  have r13_ : Hid (w7.heap[w6.heap.size]? = some (.cells #[.int .i64 tk, .int .i64 tn, .string tt, .slice ta tl tc, .slice tf tm tg] 25 (0, 0))) := by show _ = _; rw [hw_]; exact heap_alloc_new _ _
  rw [← hw_]
  clear hw_
  replace D := hid (D.out.step N.out)
  replace r5 := hid ((N.out.block _ (lt_of_block r5.out)).trans r5.out)
  replace r9 := hid ((N.out.block _ (lt_of_block r9.out)).trans r9.out)
  replace r11 := hid ((N.out.block _ (lt_of_block r11.out)).trans r11.out)
  replace xV := hid (xV.out.later N.out)
  replace xU := hid (xU.out.later N.out)
  replace xs := hid (xs.out.later N.out)
  replace xt := hid (xt.out.later N.out)
  clear N
  have r13 := r13_
  clear r13_
  have a5_0 := box_at (j := 0) r5.out rfl
  have a5_1 := box_at (j := 1) r5.out rfl
  have a5_2 := box_at (j := 2) r5.out rfl
  have a5_3 := box_at (j := 3) r5.out rfl
  have a5_4 := box_at (j := 4) r5.out rfl
  go_wp2_with fail
  refine (ha3.out _ _ D.out xV.out).mono ?_
  rintro e w8 ⟨cs_, rfl, N0, xw_⟩
  clear a5_0 a5_1 a5_2 a5_3 a5_4
  obtain ⟨wk, wn, wt, wa, wl, wc, wf, wm, wg, rfl⟩ := xw_.cells5
  replace xw_ := hid xw_.now_free
  have N := hid N0
  clear N0
  replace D := hid (D.out.step N.out)
  replace r5 := hid ((N.out.block _ (lt_of_block r5.out)).trans r5.out)
  replace r9 := hid ((N.out.block _ (lt_of_block r9.out)).trans r9.out)
  replace r11 := hid ((N.out.block _ (lt_of_block r11.out)).trans r11.out)
  replace r13 := hid ((N.out.block _ (lt_of_block r13.out)).trans r13.out)
  replace xV := hid (xV.out.later N.out)
  replace xU := hid (xU.out.later N.out)
  replace xs := hid (xs.out.later N.out)
  replace xt := hid (xt.out.later N.out)
  have xw := xw_
  clear xw_
  clear N
  go_upto_region 8 with fail
  obtain ⟨w9, hw_⟩ : ∃ x, x = w8.alloc (.cells #[.int .i64 wk, .int .i64 wn, .string wt, .slice wa wl wc, .slice wf wm wg] 25) := ⟨_, rfl⟩
  have N : Hid (Below w8.heap.size w8 w9) := by show Below _ _ _; rw [hw_]; exact below_new _ _
  have r15_ : Hid (w9.heap[w8.heap.size]? = some (.cells #[.int .i64 wk, .int .i64 wn, .string wt, .slice wa wl wc, .slice wf wm wg] 25 (0, 0))) := by show _ = _; rw [hw_]; exact heap_alloc_new _ _
  rw [← hw_]
  clear hw_
  replace D := hid (D.out.step N.out)
  replace r5 := hid ((N.out.block _ (lt_of_block r5.out)).trans r5.out)
  replace r9 := hid ((N.out.block _ (lt_of_block r9.out)).trans r9.out)
  replace r11 := hid ((N.out.block _ (lt_of_block r11.out)).trans r11.out)
  replace r13 := hid ((N.out.block _ (lt_of_block r13.out)).trans r13.out)
  replace xV := hid (xV.out.later N.out)
  replace xU := hid (xU.out.later N.out)
  replace xs := hid (xs.out.later N.out)
  replace xt := hid (xt.out.later N.out)
  replace xw := hid (xw.out.later N.out)
  clear N
  have r15 := r15_
  clear r15_
  clear ha1 ha2 ha3 ea eb eab
  by_cases hSE : SE = 0
  · subst hSE
    by_cases hTE : TE = 0
    · subst hTE
      obtain ⟨hS1, hS2⟩ := hS.out rfl rfl
      subst hS1 hS2
      clear hS
      have a13_0 := box_at (j := 0) r13.out rfl
      have a13_1 := box_at (j := 1) r13.out rfl
      have a13_2 := box_at (j := 2) r13.out rfl
      have a13_3 := box_at (j := 3) r13.out rfl
      have a13_4 := box_at (j := 4) r13.out rfl
      have a15_0 := box_at (j := 0) r15.out rfl
      have a15_1 := box_at (j := 1) r15.out rfl
      have a15_2 := box_at (j := 2) r15.out rfl
      have a15_3 := box_at (j := 3) r15.out rfl
      have a15_4 := box_at (j := 4) r15.out rfl
      go_wp2_with fail
      refine (hsm.out _ _ _ _ xt.out xw.out).mono ?_
      rintro e w10 ⟨rfl, N0⟩
      clear a13_0 a13_1 a13_2 a13_3 a13_4 a15_0 a15_1 a15_2 a15_3 a15_4
      have N := hid N0
      clear N0
      replace D := hid (D.out.step N.out)
      replace r5 := hid ((N.out.block _ (lt_of_block r5.out)).trans r5.out)
      replace r9 := hid ((N.out.block _ (lt_of_block r9.out)).trans r9.out)
      replace r11 := hid ((N.out.block _ (lt_of_block r11.out)).trans r11.out)
      replace r13 := hid ((N.out.block _ (lt_of_block r13.out)).trans r13.out)
      replace r15 := hid ((N.out.block _ (lt_of_block r15.out)).trans r15.out)
      replace xV := hid (xV.out.later N.out)
      replace xU := hid (xU.out.later N.out)
      replace xs := hid (xs.out.later N.out)
      replace xt := hid (xt.out.later N.out)
      replace xw := hid (xw.out.later N.out)
      clear N
      have a5_0 := box_at (j := 0) r5.out rfl
      have a5_1 := box_at (j := 1) r5.out rfl
      have a5_2 := box_at (j := 2) r5.out rfl
      have a5_3 := box_at (j := 3) r5.out rfl
      have a5_4 := box_at (j := 4) r5.out rfl
      have a9_0 := box_at (j := 0) r9.out rfl
      have a9_1 := box_at (j := 1) r9.out rfl
      have a9_2 := box_at (j := 2) r9.out rfl
      have a9_3 := box_at (j := 3) r9.out rfl
      have a9_4 := box_at (j := 4) r9.out rfl
      go_wp2_with fail
      refine (hpu.out _ _ _ D.out xV.out xU.out).mono ?_
      rintro e w11 ⟨cs_, rfl, N0, xp_⟩
      clear a5_0 a5_1 a5_2 a5_3 a5_4 a9_0 a9_1 a9_2 a9_3 a9_4
      obtain ⟨pk, pn, pt, pa, pl, pc, pf, pm, pg, rfl⟩ := xp_.cells5
      replace xp_ := hid xp_.now_free
      have N := hid N0
      clear N0
      replace D := hid (D.out.step N.out)
      replace r5 := hid ((N.out.block _ (lt_of_block r5.out)).trans r5.out)
      replace r9 := hid ((N.out.block _ (lt_of_block r9.out)).trans r9.out)
      replace r11 := hid ((N.out.block _ (lt_of_block r11.out)).trans r11.out)
      replace r13 := hid ((N.out.block _ (lt_of_block r13.out)).trans r13.out)
      replace r15 := hid ((N.out.block _ (lt_of_block r15.out)).trans r15.out)
      replace xV := hid (xV.out.later N.out)
      replace xU := hid (xU.out.later N.out)
      replace xs := hid (xs.out.later N.out)
      replace xt := hid (xt.out.later N.out)
      replace xw := hid (xw.out.later N.out)
      have xp := xp_
      clear xp_
      clear N
      go_upto_region 11 with fail
      obtain ⟨w12, hw_⟩ : ∃ x, x = w11.alloc (.cells #[.int .i64 pk, .int .i64 pn, .string pt, .slice pa pl pc, .slice pf pm pg] 25) := ⟨_, rfl⟩
      have N : Hid (Below w11.heap.size w11 w12) := by show Below _ _ _; rw [hw_]; exact below_new _ _
      have r17_ : Hid (w12.heap[w11.heap.size]? = some (.cells #[.int .i64 pk, .int .i64 pn, .string pt, .slice pa pl pc, .slice pf pm pg] 25 (0, 0))) := by show _ = _; rw [hw_]; exact heap_alloc_new _ _
      rw [← hw_]
      clear hw_
      replace D := hid (D.out.step N.out)
      replace r5 := hid ((N.out.block _ (lt_of_block r5.out)).trans r5.out)
      replace r9 := hid ((N.out.block _ (lt_of_block r9.out)).trans r9.out)
      replace r11 := hid ((N.out.block _ (lt_of_block r11.out)).trans r11.out)
      replace r13 := hid ((N.out.block _ (lt_of_block r13.out)).trans r13.out)
      replace r15 := hid ((N.out.block _ (lt_of_block r15.out)).trans r15.out)
      replace xV := hid (xV.out.later N.out)
      replace xU := hid (xU.out.later N.out)
      replace xs := hid (xs.out.later N.out)
      replace xt := hid (xt.out.later N.out)
      replace xw := hid (xw.out.later N.out)
      replace xp := hid (xp.out.later N.out)
      clear N
      have r17 := r17_
      clear r17_
      by_cases hWE : WE = 0
      · subst hWE
        obtain ⟨hP1, hP2⟩ := hP.out rfl
        subst hP1
        clear hP hB
        have a5_0 := box_at (j := 0) r5.out rfl
        have a5_1 := box_at (j := 1) r5.out rfl
        have a5_2 := box_at (j := 2) r5.out rfl
        have a5_3 := box_at (j := 3) r5.out rfl
        have a5_4 := box_at (j := 4) r5.out rfl
        go_wp2_with fail
        refine (hgv.out _ _ D.out xV.out).mono ?_
        rintro e w13 ⟨cs_, rfl, N0, xo_⟩
        clear a5_0 a5_1 a5_2 a5_3 a5_4
        obtain ⟨ok, on, ot, ol, ofn, ofv⟩ := O0
        obtain ⟨oa, oc, of, og, rfl, _⟩ := xo_.inv
        replace xo_ := hid xo_.now_free
        have N := hid N0
        clear N0
        replace D := hid (D.out.step N.out)
        replace r5 := hid ((N.out.block _ (lt_of_block r5.out)).trans r5.out)
        replace r9 := hid ((N.out.block _ (lt_of_block r9.out)).trans r9.out)
        replace r11 := hid ((N.out.block _ (lt_of_block r11.out)).trans r11.out)
        replace r13 := hid ((N.out.block _ (lt_of_block r13.out)).trans r13.out)
        replace r15 := hid ((N.out.block _ (lt_of_block r15.out)).trans r15.out)
        replace r17 := hid ((N.out.block _ (lt_of_block r17.out)).trans r17.out)
        replace xV := hid (xV.out.later N.out)
        replace xU := hid (xU.out.later N.out)
        replace xs := hid (xs.out.later N.out)
        replace xt := hid (xt.out.later N.out)
        replace xw := hid (xw.out.later N.out)
        replace xp := hid (xp.out.later N.out)
        have xo := xo_
        clear xo_
        clear N
        go_upto_region 14 with fail
        obtain ⟨w14, hw_⟩ : ∃ x, x = w13.alloc (.cells #[.int .i64 ok, .int .i64 on, .string ot, .slice oa ol.length oc, .slice of ofv.length og] 25) := ⟨_, rfl⟩
        have N : Hid (Below w13.heap.size w13 w14) := by show Below _ _ _; rw [hw_]; exact below_new _ _
        have r19_ : Hid (w14.heap[w13.heap.size]? = some (.cells #[.int .i64 ok, .int .i64 on, .string ot, .slice oa ol.length oc, .slice of ofv.length og] 25 (0, 0))) := by show _ = _; rw [hw_]; exact heap_alloc_new _ _
        rw [← hw_]
        clear hw_
        replace D := hid (D.out.step N.out)
        replace r5 := hid ((N.out.block _ (lt_of_block r5.out)).trans r5.out)
        replace r9 := hid ((N.out.block _ (lt_of_block r9.out)).trans r9.out)
        replace r11 := hid ((N.out.block _ (lt_of_block r11.out)).trans r11.out)
        replace r13 := hid ((N.out.block _ (lt_of_block r13.out)).trans r13.out)
        replace r15 := hid ((N.out.block _ (lt_of_block r15.out)).trans r15.out)
        replace r17 := hid ((N.out.block _ (lt_of_block r17.out)).trans r17.out)
        replace xV := hid (xV.out.later N.out)
        replace xU := hid (xU.out.later N.out)
        replace xs := hid (xs.out.later N.out)
        replace xt := hid (xt.out.later N.out)
        replace xw := hid (xw.out.later N.out)
        replace xp := hid (xp.out.later N.out)
        replace xo := hid (xo.out.later N.out)
        clear N
        have r19 := r19_
        clear r19_
        have a17_0 := box_at (j := 0) r17.out rfl
        have a17_1 := box_at (j := 1) r17.out rfl
        have a17_2 := box_at (j := 2) r17.out rfl
        have a17_3 := box_at (j := 3) r17.out rfl
        have a17_4 := box_at (j := 4) r17.out rfl
        go_wp2_with fail
        refine (hgw.out _ _ D.out xp.out).mono ?_
        rintro e w15 ⟨cs_, rfl, N0, xq_⟩
        clear a17_0 a17_1 a17_2 a17_3 a17_4
        rw [hP2] at xq_
        obtain ⟨qa, qc, qf, qg, rfl, _⟩ := (show Rd _ _ (.mk 5 0 ByteArray.empty (ol ++ [X0]) [] []) _ from xq_).inv
        replace xq_ := hid xq_.now_free
        obtain ⟨n1, hn1⟩ : ∃ n, n = (ol ++ [X0]).length := ⟨_, rfl⟩
        rw [← hn1] at xq_
        rw [← hn1]
        rw [List.length_append, List.length_singleton] at hn1
        replace hn1 := hid hn1
        have N := hid N0
        clear N0
        replace D := hid (D.out.step N.out)
        replace r5 := hid ((N.out.block _ (lt_of_block r5.out)).trans r5.out)
        replace r9 := hid ((N.out.block _ (lt_of_block r9.out)).trans r9.out)
        replace r11 := hid ((N.out.block _ (lt_of_block r11.out)).trans r11.out)
        replace r13 := hid ((N.out.block _ (lt_of_block r13.out)).trans r13.out)
        replace r15 := hid ((N.out.block _ (lt_of_block r15.out)).trans r15.out)
        replace r17 := hid ((N.out.block _ (lt_of_block r17.out)).trans r17.out)
        replace r19 := hid ((N.out.block _ (lt_of_block r19.out)).trans r19.out)
        replace xV := hid (xV.out.later N.out)
        replace xU := hid (xU.out.later N.out)
        replace xs := hid (xs.out.later N.out)
        replace xt := hid (xt.out.later N.out)
        replace xw := hid (xw.out.later N.out)
        replace xp := hid (xp.out.later N.out)
        replace xo := hid (xo.out.later N.out)
        have xq := xq_
        clear xq_
        clear N
        go_upto_region 15 with fail
        obtain ⟨w16, hw_⟩ : ∃ x, x = w15.alloc (.cells #[.int .i64 5, .int .i64 0, .string ByteArray.empty, .slice qa n1 qc, .slice qf 0 qg] 25) := ⟨_, rfl⟩
        have N : Hid (Below w15.heap.size w15 w16) := by show Below _ _ _; rw [hw_]; exact below_new _ _
        have r21_ : Hid (w16.heap[w15.heap.size]? = some (.cells #[.int .i64 5, .int .i64 0, .string ByteArray.empty, .slice qa n1 qc, .slice qf 0 qg] 25 (0, 0))) := by show _ = _; rw [hw_]; exact heap_alloc_new _ _
        rw [← hw_]
        clear hw_
        replace D := hid (D.out.step N.out)
        replace r5 := hid ((N.out.block _ (lt_of_block r5.out)).trans r5.out)
        replace r9 := hid ((N.out.block _ (lt_of_block r9.out)).trans r9.out)
        replace r11 := hid ((N.out.block _ (lt_of_block r11.out)).trans r11.out)
        replace r13 := hid ((N.out.block _ (lt_of_block r13.out)).trans r13.out)
        replace r15 := hid ((N.out.block _ (lt_of_block r15.out)).trans r15.out)
        replace r17 := hid ((N.out.block _ (lt_of_block r17.out)).trans r17.out)
        replace r19 := hid ((N.out.block _ (lt_of_block r19.out)).trans r19.out)
        replace xV := hid (xV.out.later N.out)
        replace xU := hid (xU.out.later N.out)
        replace xs := hid (xs.out.later N.out)
        replace xt := hid (xt.out.later N.out)
        replace xw := hid (xw.out.later N.out)
        replace xp := hid (xp.out.later N.out)
        replace xo := hid (xo.out.later N.out)
        replace xq := hid (xq.out.later N.out)
        clear N
        have r21 := r21_
        clear r21_
        obtain ⟨_, _, _, _, ho5, _, _, _, _, hol, _, _, hLo, _⟩ := xo.out.inv
        simp only [List.cons.injEq, Value.slice.injEq, and_true, true_and] at ho5
        obtain ⟨⟨rfl, rfl⟩, rfl, rfl⟩ := ho5
        obtain ⟨_, _, _, _, hq5, _, _, _, hqc, hql, _, _, hLq, _⟩ := (show Rd w16 (Now w16) (.mk 5 0 ByteArray.empty (ol ++ [X0]) [] []) _ from xq.out).inv
        simp only [List.cons.injEq, Value.slice.injEq, and_true, true_and] at hq5
        obtain ⟨⟨rfl, hj9, rfl⟩, hj8, rfl⟩ := hq5
        clear hj9 hj8
        rw [List.length_append, List.length_singleton] at hqc hql
        have hmn : ol.length < n1 := by have := hn1.out; omega
        have hmq : ol.length ≤ qc := by omega
        have hnq : n1 ≤ qc := by have := hn1.out; omega
        have hLf := hid (rdL_front hLq)
        have hLo2 := hid hLo
        obtain ⟨b, off, ys, rfl, _, hc, hr⟩ := hLq.at_ (i := ol.length) (x := X0) (by simp)
        obtain ⟨yk, yn, yt, ya, yl, yc, yf, ym, yg, rfl⟩ := hr.cells5
        obtain ⟨c0, c1, c2, c3, c4⟩ := five hc
        have xy := hid hr
        clear hc hr hLq hLo
        have e1 : IntKind.i64.wrap ((ol.length : Int) + 1) = (n1 : Int) := by rw [IntWalk.i64_in _ (by omega)]; have := hn1.out; omega
        have qs := hid (fun (p : Later w16) => hsm.out X0 p.x _ _ (xy.out.later p.h) (xU.out.later p.h))
        have ql := hid (fun (p : Later w16) => rlist6_calls ol (hLf.out.later p.h) (hLo2.out.later p.h))
        generalize ol.length = m at *
        clear hqc hql hol
        have hmi : (m : Int) < (n1 : Int) := by omega
        replace c0 := Later.cell c0
        replace c1 := Later.cell c1
        replace c2 := Later.cell c2
        replace c3 := Later.cell c3
        replace c4 := Later.cell c4
        have o3 := Later.cell (box_at (j := 3) r19.out rfl)
        have n3 := Later.cell (box_at (j := 3) r21.out rfl)
        have b0 := Later.cell (box_at (j := 0) r9.out rfl)
        have b1 := Later.cell (box_at (j := 1) r9.out rfl)
        have b2 := Later.cell (box_at (j := 2) r9.out rfl)
        have b3 := Later.cell (box_at (j := 3) r9.out rfl)
        have b4 := Later.cell (box_at (j := 4) r9.out rfl)
        refine wp_later (by kernel_rfl) (by kernel_rfl) ?_
        iterate 21 (go_big_quiet_step ((go_at_call 25; exact later_calls _ (ql.out _))))
        repeat (go_big_quiet_step ((go_at_call 17; exact later_calls _ (qs.out _))))
        refine wpQuiet_nil ?_
        rintro _ ⟨q, rfl⟩
        clear c0 c1 c2 c3 c4 o3 n3 b0 b1 b2 b3 b4 e1
        go_wp2_with fail
        go_ret
        exact ⟨rfl, D.out.step q.h⟩
      · obtain rfl : WV = zeroP := hB.out hWE
        have a17_0 := box_at (j := 0) r17.out rfl
        have a17_1 := box_at (j := 1) r17.out rfl
        have a17_2 := box_at (j := 2) r17.out rfl
        have a17_3 := box_at (j := 3) r17.out rfl
        have a17_4 := box_at (j := 4) r17.out rfl
        go_wp2_with fail
        refine (hze.out _ _ xp.out).mono ?_
        rintro e w13 ⟨rfl, N0⟩
        clear a17_0 a17_1 a17_2 a17_3 a17_4
        have N := hid N0
        clear N0
        replace D := hid (D.out.step N.out)
        replace r5 := hid ((N.out.block _ (lt_of_block r5.out)).trans r5.out)
        replace r9 := hid ((N.out.block _ (lt_of_block r9.out)).trans r9.out)
        replace r11 := hid ((N.out.block _ (lt_of_block r11.out)).trans r11.out)
        replace r13 := hid ((N.out.block _ (lt_of_block r13.out)).trans r13.out)
        replace r15 := hid ((N.out.block _ (lt_of_block r15.out)).trans r15.out)
        replace r17 := hid ((N.out.block _ (lt_of_block r17.out)).trans r17.out)
        replace xV := hid (xV.out.later N.out)
        replace xU := hid (xU.out.later N.out)
        replace xs := hid (xs.out.later N.out)
        replace xt := hid (xt.out.later N.out)
        replace xw := hid (xw.out.later N.out)
        replace xp := hid (xp.out.later N.out)
        clear N
        go_wp2_with fail
        go_ret
        exact ⟨rfl, D.out⟩
    · clear hS
      have a5_0 := box_at (j := 0) r5.out rfl
      have a5_1 := box_at (j := 1) r5.out rfl
      have a5_2 := box_at (j := 2) r5.out rfl
      have a5_3 := box_at (j := 3) r5.out rfl
      have a5_4 := box_at (j := 4) r5.out rfl
      have a9_0 := box_at (j := 0) r9.out rfl
      have a9_1 := box_at (j := 1) r9.out rfl
      have a9_2 := box_at (j := 2) r9.out rfl
      have a9_3 := box_at (j := 3) r9.out rfl
      have a9_4 := box_at (j := 4) r9.out rfl
      go_wp2_with fail
      refine (hpu.out _ _ _ D.out xV.out xU.out).mono ?_
      rintro e w10 ⟨cs_, rfl, N0, xp_⟩
      clear a5_0 a5_1 a5_2 a5_3 a5_4 a9_0 a9_1 a9_2 a9_3 a9_4
      obtain ⟨pk, pn, pt, pa, pl, pc, pf, pm, pg, rfl⟩ := xp_.cells5
      replace xp_ := hid xp_.now_free
      have N := hid N0
      clear N0
      replace D := hid (D.out.step N.out)
      replace r5 := hid ((N.out.block _ (lt_of_block r5.out)).trans r5.out)
      replace r9 := hid ((N.out.block _ (lt_of_block r9.out)).trans r9.out)
      replace r11 := hid ((N.out.block _ (lt_of_block r11.out)).trans r11.out)
      replace r13 := hid ((N.out.block _ (lt_of_block r13.out)).trans r13.out)
      replace r15 := hid ((N.out.block _ (lt_of_block r15.out)).trans r15.out)
      replace xV := hid (xV.out.later N.out)
      replace xU := hid (xU.out.later N.out)
      replace xs := hid (xs.out.later N.out)
      replace xt := hid (xt.out.later N.out)
      replace xw := hid (xw.out.later N.out)
      have xp := xp_
      clear xp_
      clear N
      go_upto_region 11 with fail
      obtain ⟨w11, hw_⟩ : ∃ x, x = w10.alloc (.cells #[.int .i64 pk, .int .i64 pn, .string pt, .slice pa pl pc, .slice pf pm pg] 25) := ⟨_, rfl⟩
      have N : Hid (Below w10.heap.size w10 w11) := by show Below _ _ _; rw [hw_]; exact below_new _ _
      have r17_ : Hid (w11.heap[w10.heap.size]? = some (.cells #[.int .i64 pk, .int .i64 pn, .string pt, .slice pa pl pc, .slice pf pm pg] 25 (0, 0))) := by show _ = _; rw [hw_]; exact heap_alloc_new _ _
      rw [← hw_]
      clear hw_
      replace D := hid (D.out.step N.out)
      replace r5 := hid ((N.out.block _ (lt_of_block r5.out)).trans r5.out)
      replace r9 := hid ((N.out.block _ (lt_of_block r9.out)).trans r9.out)
      replace r11 := hid ((N.out.block _ (lt_of_block r11.out)).trans r11.out)
      replace r13 := hid ((N.out.block _ (lt_of_block r13.out)).trans r13.out)
      replace r15 := hid ((N.out.block _ (lt_of_block r15.out)).trans r15.out)
      replace xV := hid (xV.out.later N.out)
      replace xU := hid (xU.out.later N.out)
      replace xs := hid (xs.out.later N.out)
      replace xt := hid (xt.out.later N.out)
      replace xw := hid (xw.out.later N.out)
      replace xp := hid (xp.out.later N.out)
      clear N
      have r17 := r17_
      clear r17_
      by_cases hWE : WE = 0
      · subst hWE
        obtain ⟨hP1, hP2⟩ := hP.out rfl
        subst hP1
        clear hP hB
        have a5_0 := box_at (j := 0) r5.out rfl
        have a5_1 := box_at (j := 1) r5.out rfl
        have a5_2 := box_at (j := 2) r5.out rfl
        have a5_3 := box_at (j := 3) r5.out rfl
        have a5_4 := box_at (j := 4) r5.out rfl
        go_wp2_with fail
        refine (hgv.out _ _ D.out xV.out).mono ?_
        rintro e w12 ⟨cs_, rfl, N0, xo_⟩
        clear a5_0 a5_1 a5_2 a5_3 a5_4
        obtain ⟨ok, on, ot, ol, ofn, ofv⟩ := O0
        obtain ⟨oa, oc, of, og, rfl, _⟩ := xo_.inv
        replace xo_ := hid xo_.now_free
        have N := hid N0
        clear N0
        replace D := hid (D.out.step N.out)
        replace r5 := hid ((N.out.block _ (lt_of_block r5.out)).trans r5.out)
        replace r9 := hid ((N.out.block _ (lt_of_block r9.out)).trans r9.out)
        replace r11 := hid ((N.out.block _ (lt_of_block r11.out)).trans r11.out)
        replace r13 := hid ((N.out.block _ (lt_of_block r13.out)).trans r13.out)
        replace r15 := hid ((N.out.block _ (lt_of_block r15.out)).trans r15.out)
        replace r17 := hid ((N.out.block _ (lt_of_block r17.out)).trans r17.out)
        replace xV := hid (xV.out.later N.out)
        replace xU := hid (xU.out.later N.out)
        replace xs := hid (xs.out.later N.out)
        replace xt := hid (xt.out.later N.out)
        replace xw := hid (xw.out.later N.out)
        replace xp := hid (xp.out.later N.out)
        have xo := xo_
        clear xo_
        clear N
        go_upto_region 14 with fail
        obtain ⟨w13, hw_⟩ : ∃ x, x = w12.alloc (.cells #[.int .i64 ok, .int .i64 on, .string ot, .slice oa ol.length oc, .slice of ofv.length og] 25) := ⟨_, rfl⟩
        have N : Hid (Below w12.heap.size w12 w13) := by show Below _ _ _; rw [hw_]; exact below_new _ _
        have r19_ : Hid (w13.heap[w12.heap.size]? = some (.cells #[.int .i64 ok, .int .i64 on, .string ot, .slice oa ol.length oc, .slice of ofv.length og] 25 (0, 0))) := by show _ = _; rw [hw_]; exact heap_alloc_new _ _
        rw [← hw_]
        clear hw_
        replace D := hid (D.out.step N.out)
        replace r5 := hid ((N.out.block _ (lt_of_block r5.out)).trans r5.out)
        replace r9 := hid ((N.out.block _ (lt_of_block r9.out)).trans r9.out)
        replace r11 := hid ((N.out.block _ (lt_of_block r11.out)).trans r11.out)
        replace r13 := hid ((N.out.block _ (lt_of_block r13.out)).trans r13.out)
        replace r15 := hid ((N.out.block _ (lt_of_block r15.out)).trans r15.out)
        replace r17 := hid ((N.out.block _ (lt_of_block r17.out)).trans r17.out)
        replace xV := hid (xV.out.later N.out)
        replace xU := hid (xU.out.later N.out)
        replace xs := hid (xs.out.later N.out)
        replace xt := hid (xt.out.later N.out)
        replace xw := hid (xw.out.later N.out)
        replace xp := hid (xp.out.later N.out)
        replace xo := hid (xo.out.later N.out)
        clear N
        have r19 := r19_
        clear r19_
        have a17_0 := box_at (j := 0) r17.out rfl
        have a17_1 := box_at (j := 1) r17.out rfl
        have a17_2 := box_at (j := 2) r17.out rfl
        have a17_3 := box_at (j := 3) r17.out rfl
        have a17_4 := box_at (j := 4) r17.out rfl
        go_wp2_with fail
        refine (hgw.out _ _ D.out xp.out).mono ?_
        rintro e w14 ⟨cs_, rfl, N0, xq_⟩
        clear a17_0 a17_1 a17_2 a17_3 a17_4
        rw [hP2] at xq_
        obtain ⟨qa, qc, qf, qg, rfl, _⟩ := (show Rd _ _ (.mk 5 0 ByteArray.empty (ol ++ [X0]) [] []) _ from xq_).inv
        replace xq_ := hid xq_.now_free
        obtain ⟨n1, hn1⟩ : ∃ n, n = (ol ++ [X0]).length := ⟨_, rfl⟩
        rw [← hn1] at xq_
        rw [← hn1]
        rw [List.length_append, List.length_singleton] at hn1
        replace hn1 := hid hn1
        have N := hid N0
        clear N0
        replace D := hid (D.out.step N.out)
        replace r5 := hid ((N.out.block _ (lt_of_block r5.out)).trans r5.out)
        replace r9 := hid ((N.out.block _ (lt_of_block r9.out)).trans r9.out)
        replace r11 := hid ((N.out.block _ (lt_of_block r11.out)).trans r11.out)
        replace r13 := hid ((N.out.block _ (lt_of_block r13.out)).trans r13.out)
        replace r15 := hid ((N.out.block _ (lt_of_block r15.out)).trans r15.out)
        replace r17 := hid ((N.out.block _ (lt_of_block r17.out)).trans r17.out)
        replace r19 := hid ((N.out.block _ (lt_of_block r19.out)).trans r19.out)
        replace xV := hid (xV.out.later N.out)
        replace xU := hid (xU.out.later N.out)
        replace xs := hid (xs.out.later N.out)
        replace xt := hid (xt.out.later N.out)
        replace xw := hid (xw.out.later N.out)
        replace xp := hid (xp.out.later N.out)
        replace xo := hid (xo.out.later N.out)
        have xq := xq_
        clear xq_
        clear N
        go_upto_region 15 with fail
        obtain ⟨w15, hw_⟩ : ∃ x, x = w14.alloc (.cells #[.int .i64 5, .int .i64 0, .string ByteArray.empty, .slice qa n1 qc, .slice qf 0 qg] 25) := ⟨_, rfl⟩
        have N : Hid (Below w14.heap.size w14 w15) := by show Below _ _ _; rw [hw_]; exact below_new _ _
        have r21_ : Hid (w15.heap[w14.heap.size]? = some (.cells #[.int .i64 5, .int .i64 0, .string ByteArray.empty, .slice qa n1 qc, .slice qf 0 qg] 25 (0, 0))) := by show _ = _; rw [hw_]; exact heap_alloc_new _ _
        rw [← hw_]
        clear hw_
        replace D := hid (D.out.step N.out)
        replace r5 := hid ((N.out.block _ (lt_of_block r5.out)).trans r5.out)
        replace r9 := hid ((N.out.block _ (lt_of_block r9.out)).trans r9.out)
        replace r11 := hid ((N.out.block _ (lt_of_block r11.out)).trans r11.out)
        replace r13 := hid ((N.out.block _ (lt_of_block r13.out)).trans r13.out)
        replace r15 := hid ((N.out.block _ (lt_of_block r15.out)).trans r15.out)
        replace r17 := hid ((N.out.block _ (lt_of_block r17.out)).trans r17.out)
        replace r19 := hid ((N.out.block _ (lt_of_block r19.out)).trans r19.out)
        replace xV := hid (xV.out.later N.out)
        replace xU := hid (xU.out.later N.out)
        replace xs := hid (xs.out.later N.out)
        replace xt := hid (xt.out.later N.out)
        replace xw := hid (xw.out.later N.out)
        replace xp := hid (xp.out.later N.out)
        replace xo := hid (xo.out.later N.out)
        replace xq := hid (xq.out.later N.out)
        clear N
        have r21 := r21_
        clear r21_
        obtain ⟨_, _, _, _, ho5, _, _, _, _, hol, _, _, hLo, _⟩ := xo.out.inv
        simp only [List.cons.injEq, Value.slice.injEq, and_true, true_and] at ho5
        obtain ⟨⟨rfl, rfl⟩, rfl, rfl⟩ := ho5
        obtain ⟨_, _, _, _, hq5, _, _, _, hqc, hql, _, _, hLq, _⟩ := (show Rd w15 (Now w15) (.mk 5 0 ByteArray.empty (ol ++ [X0]) [] []) _ from xq.out).inv
        simp only [List.cons.injEq, Value.slice.injEq, and_true, true_and] at hq5
        obtain ⟨⟨rfl, hj9, rfl⟩, hj8, rfl⟩ := hq5
        clear hj9 hj8
        rw [List.length_append, List.length_singleton] at hqc hql
        have hmn : ol.length < n1 := by have := hn1.out; omega
        have hmq : ol.length ≤ qc := by omega
        have hnq : n1 ≤ qc := by have := hn1.out; omega
        have hLf := hid (rdL_front hLq)
        have hLo2 := hid hLo
        obtain ⟨b, off, ys, rfl, _, hc, hr⟩ := hLq.at_ (i := ol.length) (x := X0) (by simp)
        obtain ⟨yk, yn, yt, ya, yl, yc, yf, ym, yg, rfl⟩ := hr.cells5
        obtain ⟨c0, c1, c2, c3, c4⟩ := five hc
        have xy := hid hr
        clear hc hr hLq hLo
        have e1 : IntKind.i64.wrap ((ol.length : Int) + 1) = (n1 : Int) := by rw [IntWalk.i64_in _ (by omega)]; have := hn1.out; omega
        have qs := hid (fun (p : Later w15) => hsm.out X0 p.x _ _ (xy.out.later p.h) (xU.out.later p.h))
        have ql := hid (fun (p : Later w15) => rlist6_calls ol (hLf.out.later p.h) (hLo2.out.later p.h))
        generalize ol.length = m at *
        clear hqc hql hol
        have hmi : (m : Int) < (n1 : Int) := by omega
        replace c0 := Later.cell c0
        replace c1 := Later.cell c1
        replace c2 := Later.cell c2
        replace c3 := Later.cell c3
        replace c4 := Later.cell c4
        have o3 := Later.cell (box_at (j := 3) r19.out rfl)
        have n3 := Later.cell (box_at (j := 3) r21.out rfl)
        have b0 := Later.cell (box_at (j := 0) r9.out rfl)
        have b1 := Later.cell (box_at (j := 1) r9.out rfl)
        have b2 := Later.cell (box_at (j := 2) r9.out rfl)
        have b3 := Later.cell (box_at (j := 3) r9.out rfl)
        have b4 := Later.cell (box_at (j := 4) r9.out rfl)
        refine wp_later (by kernel_rfl) (by kernel_rfl) ?_
        iterate 21 (go_big_quiet_step ((go_at_call 25; exact later_calls _ (ql.out _))))
        repeat (go_big_quiet_step ((go_at_call 17; exact later_calls _ (qs.out _))))
        refine wpQuiet_nil ?_
        rintro _ ⟨q, rfl⟩
        clear c0 c1 c2 c3 c4 o3 n3 b0 b1 b2 b3 b4 e1
        go_wp2_with fail
        go_ret
        exact ⟨rfl, D.out.step q.h⟩
      · obtain rfl : WV = zeroP := hB.out hWE
        have a17_0 := box_at (j := 0) r17.out rfl
        have a17_1 := box_at (j := 1) r17.out rfl
        have a17_2 := box_at (j := 2) r17.out rfl
        have a17_3 := box_at (j := 3) r17.out rfl
        have a17_4 := box_at (j := 4) r17.out rfl
        go_wp2_with fail
        refine (hze.out _ _ xp.out).mono ?_
        rintro e w12 ⟨rfl, N0⟩
        clear a17_0 a17_1 a17_2 a17_3 a17_4
        have N := hid N0
        clear N0
        replace D := hid (D.out.step N.out)
        replace r5 := hid ((N.out.block _ (lt_of_block r5.out)).trans r5.out)
        replace r9 := hid ((N.out.block _ (lt_of_block r9.out)).trans r9.out)
        replace r11 := hid ((N.out.block _ (lt_of_block r11.out)).trans r11.out)
        replace r13 := hid ((N.out.block _ (lt_of_block r13.out)).trans r13.out)
        replace r15 := hid ((N.out.block _ (lt_of_block r15.out)).trans r15.out)
        replace r17 := hid ((N.out.block _ (lt_of_block r17.out)).trans r17.out)
        replace xV := hid (xV.out.later N.out)
        replace xU := hid (xU.out.later N.out)
        replace xs := hid (xs.out.later N.out)
        replace xt := hid (xt.out.later N.out)
        replace xw := hid (xw.out.later N.out)
        replace xp := hid (xp.out.later N.out)
        clear N
        go_wp2_with fail
        go_ret
        exact ⟨rfl, D.out⟩
  · clear hS
    have a5_0 := box_at (j := 0) r5.out rfl
    have a5_1 := box_at (j := 1) r5.out rfl
    have a5_2 := box_at (j := 2) r5.out rfl
    have a5_3 := box_at (j := 3) r5.out rfl
    have a5_4 := box_at (j := 4) r5.out rfl
    have a9_0 := box_at (j := 0) r9.out rfl
    have a9_1 := box_at (j := 1) r9.out rfl
    have a9_2 := box_at (j := 2) r9.out rfl
    have a9_3 := box_at (j := 3) r9.out rfl
    have a9_4 := box_at (j := 4) r9.out rfl
    go_wp2_with fail
    refine (hpu.out _ _ _ D.out xV.out xU.out).mono ?_
    rintro e w10 ⟨cs_, rfl, N0, xp_⟩
    clear a5_0 a5_1 a5_2 a5_3 a5_4 a9_0 a9_1 a9_2 a9_3 a9_4
    obtain ⟨pk, pn, pt, pa, pl, pc, pf, pm, pg, rfl⟩ := xp_.cells5
    replace xp_ := hid xp_.now_free
    have N := hid N0
    clear N0
    replace D := hid (D.out.step N.out)
    replace r5 := hid ((N.out.block _ (lt_of_block r5.out)).trans r5.out)
    replace r9 := hid ((N.out.block _ (lt_of_block r9.out)).trans r9.out)
    replace r11 := hid ((N.out.block _ (lt_of_block r11.out)).trans r11.out)
    replace r13 := hid ((N.out.block _ (lt_of_block r13.out)).trans r13.out)
    replace r15 := hid ((N.out.block _ (lt_of_block r15.out)).trans r15.out)
    replace xV := hid (xV.out.later N.out)
    replace xU := hid (xU.out.later N.out)
    replace xs := hid (xs.out.later N.out)
    replace xt := hid (xt.out.later N.out)
    replace xw := hid (xw.out.later N.out)
    have xp := xp_
    clear xp_
    clear N
    go_upto_region 11 with fail
    obtain ⟨w11, hw_⟩ : ∃ x, x = w10.alloc (.cells #[.int .i64 pk, .int .i64 pn, .string pt, .slice pa pl pc, .slice pf pm pg] 25) := ⟨_, rfl⟩
    have N : Hid (Below w10.heap.size w10 w11) := by show Below _ _ _; rw [hw_]; exact below_new _ _
    have r17_ : Hid (w11.heap[w10.heap.size]? = some (.cells #[.int .i64 pk, .int .i64 pn, .string pt, .slice pa pl pc, .slice pf pm pg] 25 (0, 0))) := by show _ = _; rw [hw_]; exact heap_alloc_new _ _
    rw [← hw_]
    clear hw_
    replace D := hid (D.out.step N.out)
    replace r5 := hid ((N.out.block _ (lt_of_block r5.out)).trans r5.out)
    replace r9 := hid ((N.out.block _ (lt_of_block r9.out)).trans r9.out)
    replace r11 := hid ((N.out.block _ (lt_of_block r11.out)).trans r11.out)
    replace r13 := hid ((N.out.block _ (lt_of_block r13.out)).trans r13.out)
    replace r15 := hid ((N.out.block _ (lt_of_block r15.out)).trans r15.out)
    replace xV := hid (xV.out.later N.out)
    replace xU := hid (xU.out.later N.out)
    replace xs := hid (xs.out.later N.out)
    replace xt := hid (xt.out.later N.out)
    replace xw := hid (xw.out.later N.out)
    replace xp := hid (xp.out.later N.out)
    clear N
    have r17 := r17_
    clear r17_
    by_cases hWE : WE = 0
    · subst hWE
      obtain ⟨hP1, hP2⟩ := hP.out rfl
      subst hP1
      clear hP hB
      have a5_0 := box_at (j := 0) r5.out rfl
      have a5_1 := box_at (j := 1) r5.out rfl
      have a5_2 := box_at (j := 2) r5.out rfl
      have a5_3 := box_at (j := 3) r5.out rfl
      have a5_4 := box_at (j := 4) r5.out rfl
      go_wp2_with fail
      refine (hgv.out _ _ D.out xV.out).mono ?_
      rintro e w12 ⟨cs_, rfl, N0, xo_⟩
      clear a5_0 a5_1 a5_2 a5_3 a5_4
      obtain ⟨ok, on, ot, ol, ofn, ofv⟩ := O0
      obtain ⟨oa, oc, of, og, rfl, _⟩ := xo_.inv
      replace xo_ := hid xo_.now_free
      have N := hid N0
      clear N0
      replace D := hid (D.out.step N.out)
      replace r5 := hid ((N.out.block _ (lt_of_block r5.out)).trans r5.out)
      replace r9 := hid ((N.out.block _ (lt_of_block r9.out)).trans r9.out)
      replace r11 := hid ((N.out.block _ (lt_of_block r11.out)).trans r11.out)
      replace r13 := hid ((N.out.block _ (lt_of_block r13.out)).trans r13.out)
      replace r15 := hid ((N.out.block _ (lt_of_block r15.out)).trans r15.out)
      replace r17 := hid ((N.out.block _ (lt_of_block r17.out)).trans r17.out)
      replace xV := hid (xV.out.later N.out)
      replace xU := hid (xU.out.later N.out)
      replace xs := hid (xs.out.later N.out)
      replace xt := hid (xt.out.later N.out)
      replace xw := hid (xw.out.later N.out)
      replace xp := hid (xp.out.later N.out)
      have xo := xo_
      clear xo_
      clear N
      go_upto_region 14 with fail
      obtain ⟨w13, hw_⟩ : ∃ x, x = w12.alloc (.cells #[.int .i64 ok, .int .i64 on, .string ot, .slice oa ol.length oc, .slice of ofv.length og] 25) := ⟨_, rfl⟩
      have N : Hid (Below w12.heap.size w12 w13) := by show Below _ _ _; rw [hw_]; exact below_new _ _
      have r19_ : Hid (w13.heap[w12.heap.size]? = some (.cells #[.int .i64 ok, .int .i64 on, .string ot, .slice oa ol.length oc, .slice of ofv.length og] 25 (0, 0))) := by show _ = _; rw [hw_]; exact heap_alloc_new _ _
      rw [← hw_]
      clear hw_
      replace D := hid (D.out.step N.out)
      replace r5 := hid ((N.out.block _ (lt_of_block r5.out)).trans r5.out)
      replace r9 := hid ((N.out.block _ (lt_of_block r9.out)).trans r9.out)
      replace r11 := hid ((N.out.block _ (lt_of_block r11.out)).trans r11.out)
      replace r13 := hid ((N.out.block _ (lt_of_block r13.out)).trans r13.out)
      replace r15 := hid ((N.out.block _ (lt_of_block r15.out)).trans r15.out)
      replace r17 := hid ((N.out.block _ (lt_of_block r17.out)).trans r17.out)
      replace xV := hid (xV.out.later N.out)
      replace xU := hid (xU.out.later N.out)
      replace xs := hid (xs.out.later N.out)
      replace xt := hid (xt.out.later N.out)
      replace xw := hid (xw.out.later N.out)
      replace xp := hid (xp.out.later N.out)
      replace xo := hid (xo.out.later N.out)
      clear N
      have r19 := r19_
      clear r19_
      have a17_0 := box_at (j := 0) r17.out rfl
      have a17_1 := box_at (j := 1) r17.out rfl
      have a17_2 := box_at (j := 2) r17.out rfl
      have a17_3 := box_at (j := 3) r17.out rfl
      have a17_4 := box_at (j := 4) r17.out rfl
      go_wp2_with fail
      refine (hgw.out _ _ D.out xp.out).mono ?_
      rintro e w14 ⟨cs_, rfl, N0, xq_⟩
      clear a17_0 a17_1 a17_2 a17_3 a17_4
      rw [hP2] at xq_
      obtain ⟨qa, qc, qf, qg, rfl, _⟩ := (show Rd _ _ (.mk 5 0 ByteArray.empty (ol ++ [X0]) [] []) _ from xq_).inv
      replace xq_ := hid xq_.now_free
      obtain ⟨n1, hn1⟩ : ∃ n, n = (ol ++ [X0]).length := ⟨_, rfl⟩
      rw [← hn1] at xq_
      rw [← hn1]
      rw [List.length_append, List.length_singleton] at hn1
      replace hn1 := hid hn1
      have N := hid N0
      clear N0
      replace D := hid (D.out.step N.out)
      replace r5 := hid ((N.out.block _ (lt_of_block r5.out)).trans r5.out)
      replace r9 := hid ((N.out.block _ (lt_of_block r9.out)).trans r9.out)
      replace r11 := hid ((N.out.block _ (lt_of_block r11.out)).trans r11.out)
      replace r13 := hid ((N.out.block _ (lt_of_block r13.out)).trans r13.out)
      replace r15 := hid ((N.out.block _ (lt_of_block r15.out)).trans r15.out)
      replace r17 := hid ((N.out.block _ (lt_of_block r17.out)).trans r17.out)
      replace r19 := hid ((N.out.block _ (lt_of_block r19.out)).trans r19.out)
      replace xV := hid (xV.out.later N.out)
      replace xU := hid (xU.out.later N.out)
      replace xs := hid (xs.out.later N.out)
      replace xt := hid (xt.out.later N.out)
      replace xw := hid (xw.out.later N.out)
      replace xp := hid (xp.out.later N.out)
      replace xo := hid (xo.out.later N.out)
      have xq := xq_
      clear xq_
      clear N
      go_upto_region 15 with fail
      obtain ⟨w15, hw_⟩ : ∃ x, x = w14.alloc (.cells #[.int .i64 5, .int .i64 0, .string ByteArray.empty, .slice qa n1 qc, .slice qf 0 qg] 25) := ⟨_, rfl⟩
      have N : Hid (Below w14.heap.size w14 w15) := by show Below _ _ _; rw [hw_]; exact below_new _ _
      have r21_ : Hid (w15.heap[w14.heap.size]? = some (.cells #[.int .i64 5, .int .i64 0, .string ByteArray.empty, .slice qa n1 qc, .slice qf 0 qg] 25 (0, 0))) := by show _ = _; rw [hw_]; exact heap_alloc_new _ _
      rw [← hw_]
      clear hw_
      replace D := hid (D.out.step N.out)
      replace r5 := hid ((N.out.block _ (lt_of_block r5.out)).trans r5.out)
      replace r9 := hid ((N.out.block _ (lt_of_block r9.out)).trans r9.out)
      replace r11 := hid ((N.out.block _ (lt_of_block r11.out)).trans r11.out)
      replace r13 := hid ((N.out.block _ (lt_of_block r13.out)).trans r13.out)
      replace r15 := hid ((N.out.block _ (lt_of_block r15.out)).trans r15.out)
      replace r17 := hid ((N.out.block _ (lt_of_block r17.out)).trans r17.out)
      replace r19 := hid ((N.out.block _ (lt_of_block r19.out)).trans r19.out)
      replace xV := hid (xV.out.later N.out)
      replace xU := hid (xU.out.later N.out)
      replace xs := hid (xs.out.later N.out)
      replace xt := hid (xt.out.later N.out)
      replace xw := hid (xw.out.later N.out)
      replace xp := hid (xp.out.later N.out)
      replace xo := hid (xo.out.later N.out)
      replace xq := hid (xq.out.later N.out)
      clear N
      have r21 := r21_
      clear r21_
      obtain ⟨_, _, _, _, ho5, _, _, _, _, hol, _, _, hLo, _⟩ := xo.out.inv
      simp only [List.cons.injEq, Value.slice.injEq, and_true, true_and] at ho5
      obtain ⟨⟨rfl, rfl⟩, rfl, rfl⟩ := ho5
      obtain ⟨_, _, _, _, hq5, _, _, _, hqc, hql, _, _, hLq, _⟩ := (show Rd w15 (Now w15) (.mk 5 0 ByteArray.empty (ol ++ [X0]) [] []) _ from xq.out).inv
      simp only [List.cons.injEq, Value.slice.injEq, and_true, true_and] at hq5
      obtain ⟨⟨rfl, hj9, rfl⟩, hj8, rfl⟩ := hq5
      clear hj9 hj8
      rw [List.length_append, List.length_singleton] at hqc hql
      have hmn : ol.length < n1 := by have := hn1.out; omega
      have hmq : ol.length ≤ qc := by omega
      have hnq : n1 ≤ qc := by have := hn1.out; omega
      have hLf := hid (rdL_front hLq)
      have hLo2 := hid hLo
      obtain ⟨b, off, ys, rfl, _, hc, hr⟩ := hLq.at_ (i := ol.length) (x := X0) (by simp)
      obtain ⟨yk, yn, yt, ya, yl, yc, yf, ym, yg, rfl⟩ := hr.cells5
      obtain ⟨c0, c1, c2, c3, c4⟩ := five hc
      have xy := hid hr
      clear hc hr hLq hLo
      have e1 : IntKind.i64.wrap ((ol.length : Int) + 1) = (n1 : Int) := by rw [IntWalk.i64_in _ (by omega)]; have := hn1.out; omega
      have qs := hid (fun (p : Later w15) => hsm.out X0 p.x _ _ (xy.out.later p.h) (xU.out.later p.h))
      have ql := hid (fun (p : Later w15) => rlist6_calls ol (hLf.out.later p.h) (hLo2.out.later p.h))
      generalize ol.length = m at *
      clear hqc hql hol
      have hmi : (m : Int) < (n1 : Int) := by omega
      replace c0 := Later.cell c0
      replace c1 := Later.cell c1
      replace c2 := Later.cell c2
      replace c3 := Later.cell c3
      replace c4 := Later.cell c4
      have o3 := Later.cell (box_at (j := 3) r19.out rfl)
      have n3 := Later.cell (box_at (j := 3) r21.out rfl)
      have b0 := Later.cell (box_at (j := 0) r9.out rfl)
      have b1 := Later.cell (box_at (j := 1) r9.out rfl)
      have b2 := Later.cell (box_at (j := 2) r9.out rfl)
      have b3 := Later.cell (box_at (j := 3) r9.out rfl)
      have b4 := Later.cell (box_at (j := 4) r9.out rfl)
      refine wp_later (by kernel_rfl) (by kernel_rfl) ?_
      iterate 21 (go_big_quiet_step ((go_at_call 25; exact later_calls _ (ql.out _))))
      repeat (go_big_quiet_step ((go_at_call 17; exact later_calls _ (qs.out _))))
      refine wpQuiet_nil ?_
      rintro _ ⟨q, rfl⟩
      clear c0 c1 c2 c3 c4 o3 n3 b0 b1 b2 b3 b4 e1
      go_wp2_with fail
      go_ret
      exact ⟨rfl, D.out.step q.h⟩
    · obtain rfl : WV = zeroP := hB.out hWE
      have a17_0 := box_at (j := 0) r17.out rfl
      have a17_1 := box_at (j := 1) r17.out rfl
      have a17_2 := box_at (j := 2) r17.out rfl
      have a17_3 := box_at (j := 3) r17.out rfl
      have a17_4 := box_at (j := 4) r17.out rfl
      go_wp2_with fail
      refine (hze.out _ _ xp.out).mono ?_
      rintro e w12 ⟨rfl, N0⟩
      clear a17_0 a17_1 a17_2 a17_3 a17_4
      have N := hid N0
      clear N0
      replace D := hid (D.out.step N.out)
      replace r5 := hid ((N.out.block _ (lt_of_block r5.out)).trans r5.out)
      replace r9 := hid ((N.out.block _ (lt_of_block r9.out)).trans r9.out)
      replace r11 := hid ((N.out.block _ (lt_of_block r11.out)).trans r11.out)
      replace r13 := hid ((N.out.block _ (lt_of_block r13.out)).trans r13.out)
      replace r15 := hid ((N.out.block _ (lt_of_block r15.out)).trans r15.out)
      replace r17 := hid ((N.out.block _ (lt_of_block r17.out)).trans r17.out)
      replace xV := hid (xV.out.later N.out)
      replace xU := hid (xU.out.later N.out)
      replace xs := hid (xs.out.later N.out)
      replace xt := hid (xt.out.later N.out)
      replace xw := hid (xw.out.later N.out)
      replace xp := hid (xp.out.later N.out)
      clear N
      go_wp2_with fail
      go_ret
      exact ⟨rfl, D.out⟩
end Go.Proofs.YthjihdpleclejaaDoor
