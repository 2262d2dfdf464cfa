/-
  Walk: the law PathKept. No condition.
-/
import Derived.Test.YthjihdpleclejaaGreatDoorMgPth50
import Derived.Test.YthjihdpleclejaaGreatDoorMgPth49
import Derived.Test.YthjihdpleclejaaGreatDoorMgPth23
import Derived.Test.YthjihdpleclejaaGreatDoorMgPth22
namespace Go.Proofs.YthjihdpleclejaaGreatDoor
open Go.RowKit Go.Proofs
set_option maxRecDepth 100000 in
theorem zero7_calls (V : PVal) (R : Bool) (hR : R = true ↔ V = zeroP) (w : World) (cs : List Value) (hV : Rd w (Now w) V cs) :
  Calls Tryz.prog 15 #[.agg cs.toArray] w fun e w' => e = .returned (.bool R) ∧ Below w.heap.size w w' := by
 have hs := hid (fun w cs cs' => same_calls V zeroP R hR w cs cs')
 have hV0 := hid hV
 clear hR
 obtain ⟨k, n, s, l, fn, fv⟩ := V
 obtain ⟨la, lc, fa, fc, rfl, _⟩ := hV.inv
 clear hV
 have hB0 := hid (below_new w (.cells #[.int .i64 k, .int .i64 n, .string s, .slice la l.length lc, .slice fa fv.length fc] 25))
 go_enter Tryz.func15, Tryz.ntmps15
 go_wp2_with fail
 refine (hs.out _ _ _ (hV0.out.later hB0.out) rd_zeroP).mono ?_
 rintro e w1 ⟨rfl, h1⟩
 go_wp2_with fail
 go_ret
 exact ⟨rfl, hB0.out.step h1⟩
theorem spoilt_below {wk wA wB wC : World} (h1 : Below wk.heap.size wk wA) (h2 : Below wA.heap.size wA wB) (h3 : Spl (Free wk.heap.size wA) wB wC) : Below wk.heap.size wk wC := by
 have h := h1.step h2
 exact ⟨h3.os.trans h.os, h3.tape.trans h.tape, h3.output.trans h.output, Nat.le_trans h.size h3.size, fun b hb => (h3.rest b (fun hf => absurd hf.1.1 (by omega)) (Nat.lt_of_lt_of_le hb h.size)).trans (h.block b hb)⟩
theorem free_warm {wk wA wB : World} (h2 : Below wA.heap.size wA wB) : ∀ b, Free wk.heap.size wA b → ∀ off, wB.frozen? ⟨b, off, none⟩ = false := fun b hb off => by
 have := hb.2 off
 simp only [World.frozen?, h2.block b hb.1.2] at this ⊢
 exact this
theorem free_lt {wk wA wB : World} (h2 : Below wA.heap.size wA wB) : ∀ b, Free wk.heap.size wA b → b < wB.heap.size := fun _ hb => Nat.lt_of_lt_of_le hb.1.2 h2.size
theorem Rd.zero {w w' : World} {S S' : Nat → Prop} {cs : List Value} (h : Rd w S zeroP cs) : Rd w' S' zeroP cs := by
 obtain ⟨la, lc, fa, fc, rfl, hk, hn, hs, h1, h2, h3, h4, _, _⟩ := (show Rd w S (.mk 0 0 ByteArray.empty [] [] []) cs from h).inv
 exact .mk (fun _ => []) (fun _ => []) hk hn hs (by simp) rfl h1 h2 h3 h4 (.inl rfl) (fun i x hx => by simp at hx) (.inl rfl) (fun i x hx => by simp at hx)
theorem tellR_now {w w' : World} {e : Ending} {q : PVal × Int} (h : TellR (Now w) q w e w') : ∃ cs, e = .returned (.tuple #[.agg cs.toArray, .int .i64 q.2]) ∧ Below w.heap.size w w' ∧ Rd w' (Now w') q.1 cs := by
 obtain ⟨cs, h1, h2, h3⟩ := h
 exact ⟨cs, h1, h2, h3.keep (fun c hc => hc.elim (fun hc => Nat.lt_of_lt_of_le hc h2.size) (fun hc => hc.2)) (fun _ _ => rfl)⟩
theorem unset_zero {v : PVal} {p : ByteArray} (h : (unsetP v p).2 ≠ 0) : (unsetP v p).1 = zeroP := by
 unfold unsetP at *
 by_cases h1 : askP v p [] = 0
 ·rw [if_neg (by simp [h1])] at h ⊢
  by_cases h2 : gotP v p = none
  ·rw [if_pos h2] at h; exact absurd rfl h
  ·rw [if_neg h2] at h ⊢; exact done_bad h
 ·rw [if_pos h1]
set_option maxRecDepth 100000 in
set_option maxHeartbeats 8000000 in
theorem kept_calls (V0 X0 : PVal) (hm : V0.mass ≤ 33554432) (hmx : X0.mass ≤ 33554432) (pa : ByteArray) (hpa : pa.size < 4294967281) {w : World} {cs xs : List Value} (hT : Tabs w) (hM : Mx w) (hV : Rd w (Now w) V0 cs) (hx : Rd w (Now w) X0 xs) :
  Calls Tryz.prog 3 #[.agg cs.toArray, .string pa, .agg xs.toArray] w fun e w' => e = .returned (.bool true) ∧ Below w.heap.size w w' := by
 have hva := hid (fun la c' w h => vast_calls [V0, X0] la c' w h (by simp))
 have hse := hid (fun (w' : World) cs xs (h : Below w.heap.size w w') hv hx => set_calls pa hpa V0 X0 (by omega) (by omega) (w := w') (cs := cs) (xs := xs) (Tabs.stays w w' hT h) (hM.stays h) hv hx)
 have hpu := hid (fun (w' : World) cs xs (h : Below w.heap.size w w') hv hx => push_calls pa hpa V0 X0 hm hmx (w := w') (cs := cs) (xs := xs) (Tabs.stays w w' hT h) (hM.stays h) hv hx)
 have hun := hid (fun (w' : World) cs (h : Below w.heap.size w w') hv => unset_calls pa hpa V0 (by omega) (w := w') (cs := cs) (Tabs.stays w w' hT h) (hM.stays h) hv)
 have hgt := hid (fun (w' : World) cs (h : Below w.heap.size w w') hx => get_calls copy_deep pa hpa V0 (by omega) (w := w') (cs := cs) (Tabs.stays w w' hT h) (hM.stays h) hx)
 have hrs := hid (fun (w' : World) cs xs hv hx => (rSet_calls V0 X0 hm hmx pa (by omega) (w := w') (cs := cs) (xs := xs) hv hx).mono (fun _ _ h => tellR_now h))
 have hrp := hid (fun (w' : World) cs xs hv hx => (rPush_calls V0 X0 hm hmx pa (by omega) (w := w') (cs := cs) (xs := xs) hv hx).mono (fun _ _ h => tellR_now h))
 have hsp := hid (fun (U : PVal) (wk wA wB : World) (us : List Value) (h2 : Below wA.heap.size wA wB) (hr : Rd wA (Free wk.heap.size wA) U us) => spoil_calls U (S := Free wk.heap.size wA) (w := wB) (cs := us) (free_lt h2) (free_warm h2) (hr.keep (fun _ h => h) (fun b hb => h2.block b hb.1.2)))
 have haw := hid (fun (w' : World) (h : Below w.heap.size w w') => awake6_calls w' (Tabs.stays w w' hT h) (hM.stays h))
 have hsm := hid (fun (V : PVal) w cs cs' h h' => same6_calls V V true (by simp) w cs cs' h h')
 have hze := hid (fun w cs h => zero7_calls zeroP true (by simp) w cs h)
 have hUB : Hid ((unsetP V0 pa).2 ≠ 0 → (unsetP V0 pa).1 = zeroP) := fun h => unset_zero h
 unfold Done6 at hse hpu hun
 unfold Got6 at hgt
 obtain ⟨SR, hSR⟩ : ∃ R, R = setP V0 pa X0 := ⟨_, rfl⟩
 rw [← hSR] at hse hrs
 obtain ⟨PR, hPR⟩ : ∃ R, R = pushP V0 pa X0 := ⟨_, rfl⟩
 rw [← hPR] at hpu hrp
 obtain ⟨UR, hUR⟩ : ∃ R, R = unsetP V0 pa := ⟨_, rfl⟩
 rw [← hUR] at hun hUB
 obtain ⟨GR, hGR⟩ : ∃ R, R = gotP V0 pa := ⟨_, rfl⟩
 rw [← hGR] at hgt
 obtain ⟨G0, hG0⟩ : ∃ R, R = GR.getD zeroP := ⟨_, rfl⟩
 obtain ⟨GI, hGI⟩ : ∃ R, R = GR.isSome := ⟨_, rfl⟩
 rw [← hG0, ← hGI] at hgt
 obtain ⟨SV, SE⟩ := SR
 obtain ⟨PV, PE⟩ := PR
 obtain ⟨UV, UE⟩ := UR
 simp only at hse hrs hpu hrp hun hUB
 clear hSR hPR hUR hGR hG0 hGI hT hM hm hmx
 have xV := hid hV
 have xU := hid hx
 generalize vast [V0, X0] = T at *
 obtain ⟨vk, vn, vt, va, vl, vc, vf, vm, vg, rfl⟩ := hV.five
 obtain ⟨uk, un, ut, ua, ul, uc, uf, um, ug, rfl⟩ := hx.five
 clear hV hx
 go_enter Tryz.func3, Tryz.ntmps3
 have D := hid (Below.refl w.heap.size w)
 go_upto_region 1 with fail
 obtain ⟨w1, hw_⟩ : ∃ x, x = (w.alloc (.cells #[.int .i64 vk, .int .i64 vn, .string vt, .slice va vl vc, .slice vf vm vg] 25)).alloc (.cells #[.int .i64 uk, .int .i64 un, .string ut, .slice ua ul uc, .slice uf um ug] 25) := ⟨_, rfl⟩
 have N : Hid (Below w.heap.size w w1) := by show Below _ _ _; rw [hw_]; exact (below_new _ _).step (below_new _ _)
 have r3_ : Hid (w1.heap[w.heap.size]? = some (.cells #[.int .i64 vk, .int .i64 vn, .string vt, .slice va vl vc, .slice vf vm vg] 25 (0, 0))) := by show _ = _; rw [hw_]; exact al_old (al_at rfl)
 have r5_ : Hid (w1.heap[w.heap.size + 1]? = some (.cells #[.int .i64 uk, .int .i64 un, .string ut, .slice ua ul uc, .slice uf um ug] 25 (0, 0))) := by show _ = _; rw [hw_]; exact al_at (by simp)
 rw [← hw_]
 clear hw_
 replace D := hid (D.out.step N.out)
 replace xV := hid (xV.out.later N.out)
 replace xU := hid (xU.out.later N.out)
 clear N
 have r3 := r3_
 have r5 := r5_
 clear r3_ r5_
 go_wp2_with fail
 refine (haw.out _ D.out).mono ?_
 rintro e w2 ⟨rfl, N0⟩
 have N := hid N0
 clear N0
 replace D := hid (D.out.step N.out)
 replace r3 := hid ((N.out.block _ (lt_of_block r3.out)).trans r3.out)
 replace r5 := hid ((N.out.block _ (lt_of_block r5.out)).trans r5.out)
 replace xV := hid (xV.out.later N.out)
 replace xU := hid (xU.out.later N.out)
 clear N
 clear haw
 have a3_0 := box_at (j := 0) r3.out rfl
 have a3_1 := box_at (j := 1) r3.out rfl
 have a3_2 := box_at (j := 2) r3.out rfl
 have a3_3 := box_at (j := 3) r3.out rfl
 have a3_4 := box_at (j := 4) r3.out rfl
 have a5_0 := box_at (j := 0) r5.out rfl
 have a5_1 := box_at (j := 1) r5.out rfl
 have a5_2 := box_at (j := 2) r5.out rfl
 have a5_3 := box_at (j := 3) r5.out rfl
 have a5_4 := box_at (j := 4) r5.out rfl
 go_wp2_with fail
 refine (hva.out (some ⟨w2.heap.size, 0, none⟩) 2 _ (rdL_pair (x := V0) (y := X0) (al_at (o := (.cells #[.int .i64 vk, .int .i64 vn, .string vt, .slice va vl vc, .slice vf vm vg, .int .i64 uk, .int .i64 un, .string ut, .slice ua ul uc, .slice uf um ug] 25)) rfl) (lt_of_block (al_at (o := (.cells #[.int .i64 vk, .int .i64 vn, .string vt, .slice va vl vc, .slice vf vm vg, .int .i64 uk, .int .i64 un, .string ut, .slice ua ul uc, .slice uf um ug] 25)) rfl)) (xV.out.later (below_new _ _)) (xU.out.later (below_new _ _)))).mono ?_
 rintro e w3 ⟨rfl, N0⟩
 clear a3_0 a3_1 a3_2 a3_3 a3_4 a5_0 a5_1 a5_2 a5_3 a5_4
 replace N0 := (below_new w2 (.cells #[.int .i64 vk, .int .i64 vn, .string vt, .slice va vl vc, .slice vf vm vg, .int .i64 uk, .int .i64 un, .string ut, .slice ua ul uc, .slice uf um ug] 25)).step N0
 have N := hid N0
 clear N0
 replace D := hid (D.out.step N.out)
 replace r3 := hid ((N.out.block _ (lt_of_block r3.out)).trans r3.out)
 replace r5 := hid ((N.out.block _ (lt_of_block r5.out)).trans r5.out)
 replace xV := hid (xV.out.later N.out)
 replace xU := hid (xU.out.later N.out)
 clear N
 clear hva
 cases T with
 | true =>
  go_wp2_with fail
  go_ret
  exact ⟨rfl, D.out⟩
 | false =>
  have a3_0 := box_at (j := 0) r3.out rfl
  have a3_1 := box_at (j := 1) r3.out rfl
  have a3_2 := box_at (j := 2) r3.out rfl
  have a3_3 := box_at (j := 3) r3.out rfl
  have a3_4 := box_at (j := 4) r3.out rfl
  have a5_0 := box_at (j := 0) r5.out rfl
  have a5_1 := box_at (j := 1) r5.out rfl
  have a5_2 := box_at (j := 2) r5.out rfl
  have a5_3 := box_at (j := 3) r5.out rfl
  have a5_4 := box_at (j := 4) r5.out rfl
  go_wp2_with fail
  refine (hse.out _ _ _ D.out xV.out xU.out).mono ?_
  rintro e w4 ⟨cs_, rfl, N0, xa_⟩
  clear a3_0 a3_1 a3_2 a3_3 a3_4 a5_0 a5_1 a5_2 a5_3 a5_4
  replace N0 := hid N0
  obtain ⟨sk, sn, st, sa, sl, sc, sf, sm, sg, rfl⟩ := xa_.five
  replace xa_ := hid xa_
  go_upto_region 6 with fail
  obtain ⟨w5, hw_⟩ : ∃ x, x = w4.alloc (.cells #[.int .i64 sk, .int .i64 sn, .string st, .slice sa sl sc, .slice sf sm sg] 25) := ⟨_, rfl⟩
  have N1 : Hid (Below w4.heap.size w4 w5) := by show Below _ _ _; rw [hw_]; exact below_new _ _
  have rb_ : Hid (w5.heap[w4.heap.size]? = some (.cells #[.int .i64 sk, .int .i64 sn, .string st, .slice sa sl sc, .slice sf sm sg] 25 (0, 0))) := by show _ = _; rw [hw_]; exact heap_alloc_new _ _
  rw [← hw_]
  clear hw_
  have a_0 := box_at (j := 0) rb_.out rfl
  have a_1 := box_at (j := 1) rb_.out rfl
  have a_2 := box_at (j := 2) rb_.out rfl
  have a_3 := box_at (j := 3) rb_.out rfl
  have a_4 := box_at (j := 4) rb_.out rfl
  go_wp2_with fail
  refine (hsp.out _ w3 w4 w5 _ N1.out xa_.out).mono ?_
  rintro e w6 ⟨rfl, hs_⟩
  clear a_0 a_1 a_2 a_3 a_4
  have N := hid (spoilt_below N0.out N1.out hs_)
  clear N0 N1 rb_ hs_ xa_
  replace D := hid (D.out.step N.out)
  replace r3 := hid ((N.out.block _ (lt_of_block r3.out)).trans r3.out)
  replace r5 := hid ((N.out.block _ (lt_of_block r5.out)).trans r5.out)
  replace xV := hid (xV.out.later N.out)
  replace xU := hid (xU.out.later N.out)
  clear N
  have a3_0 := box_at (j := 0) r3.out rfl
  have a3_1 := box_at (j := 1) r3.out rfl
  have a3_2 := box_at (j := 2) r3.out rfl
  have a3_3 := box_at (j := 3) r3.out rfl
  have a3_4 := box_at (j := 4) r3.out rfl
  have a5_0 := box_at (j := 0) r5.out rfl
  have a5_1 := box_at (j := 1) r5.out rfl
  have a5_2 := box_at (j := 2) r5.out rfl
  have a5_3 := box_at (j := 3) r5.out rfl
  have a5_4 := box_at (j := 4) r5.out rfl
  go_wp2_with fail
  refine (hpu.out _ _ _ D.out xV.out xU.out).mono ?_
  rintro e w7 ⟨cs_, rfl, N0, xa_⟩
  clear a3_0 a3_1 a3_2 a3_3 a3_4 a5_0 a5_1 a5_2 a5_3 a5_4
  replace N0 := hid N0
  obtain ⟨pk, pn, pt, pa, pl, pc, pf, pm, pg, rfl⟩ := xa_.five
  replace xa_ := hid xa_
  go_upto_region 8 with fail
  obtain ⟨w8, hw_⟩ : ∃ x, x = w7.alloc (.cells #[.int .i64 pk, .int .i64 pn, .string pt, .slice pa pl pc, .slice pf pm pg] 25) := ⟨_, rfl⟩
  have N1 : Hid (Below w7.heap.size w7 w8) := by show Below _ _ _; rw [hw_]; exact below_new _ _
  have rb_ : Hid (w8.heap[w7.heap.size]? = some (.cells #[.int .i64 pk, .int .i64 pn, .string pt, .slice pa pl pc, .slice pf pm pg] 25 (0, 0))) := by show _ = _; rw [hw_]; exact heap_alloc_new _ _
  rw [← hw_]
  clear hw_
  have a_0 := box_at (j := 0) rb_.out rfl
  have a_1 := box_at (j := 1) rb_.out rfl
  have a_2 := box_at (j := 2) rb_.out rfl
  have a_3 := box_at (j := 3) rb_.out rfl
  have a_4 := box_at (j := 4) rb_.out rfl
  go_wp2_with fail
  refine (hsp.out _ w6 w7 w8 _ N1.out xa_.out).mono ?_
  rintro e w9 ⟨rfl, hs_⟩
  clear a_0 a_1 a_2 a_3 a_4
  have N := hid (spoilt_below N0.out N1.out hs_)
  clear N0 N1 rb_ hs_ xa_
  replace D := hid (D.out.step N.out)
  replace r3 := hid ((N.out.block _ (lt_of_block r3.out)).trans r3.out)
  replace r5 := hid ((N.out.block _ (lt_of_block r5.out)).trans r5.out)
  replace xV := hid (xV.out.later N.out)
  replace xU := hid (xU.out.later N.out)
  clear N
  have a3_0 := box_at (j := 0) r3.out rfl
  have a3_1 := box_at (j := 1) r3.out rfl
  have a3_2 := box_at (j := 2) r3.out rfl
  have a3_3 := box_at (j := 3) r3.out rfl
  have a3_4 := box_at (j := 4) r3.out rfl
  go_wp2_with fail
  refine (hun.out _ _ D.out xV.out).mono ?_
  rintro e w10 ⟨cs_, rfl, N0, xa_⟩
  clear a3_0 a3_1 a3_2 a3_3 a3_4
  replace N0 := hid N0
  obtain ⟨nk, nn, nt, na, nl, nc, nf, nm, ng, rfl⟩ := xa_.five
  replace xa_ := hid xa_
  go_upto_region 10 with fail
  obtain ⟨w11, hw_⟩ : ∃ x, x = w10.alloc (.cells #[.int .i64 nk, .int .i64 nn, .string nt, .slice na nl nc, .slice nf nm ng] 25) := ⟨_, rfl⟩
  have N1 : Hid (Below w10.heap.size w10 w11) := by show Below _ _ _; rw [hw_]; exact below_new _ _
  have rb_ : Hid (w11.heap[w10.heap.size]? = some (.cells #[.int .i64 nk, .int .i64 nn, .string nt, .slice na nl nc, .slice nf nm ng] 25 (0, 0))) := by show _ = _; rw [hw_]; exact heap_alloc_new _ _
  rw [← hw_]
  clear hw_
  have a_0 := box_at (j := 0) rb_.out rfl
  have a_1 := box_at (j := 1) rb_.out rfl
  have a_2 := box_at (j := 2) rb_.out rfl
  have a_3 := box_at (j := 3) rb_.out rfl
  have a_4 := box_at (j := 4) rb_.out rfl
  go_wp2_with fail
  refine (hsp.out _ w9 w10 w11 _ N1.out xa_.out).mono ?_
  rintro e w12 ⟨rfl, hs_⟩
  clear a_0 a_1 a_2 a_3 a_4
  have N := hid (spoilt_below N0.out N1.out hs_)
  have rc_ := hid ((hs_.rest _ (fun h => absurd h.1.2 (Nat.lt_irrefl _)) (lt_of_block rb_.out)).trans rb_.out)
  have hzc : Hid (∀ w' : World, UE ≠ 0 → Rd w' (Now w') zeroP [.int .i64 nk, .int .i64 nn, .string nt, .slice na nl nc, .slice nf nm ng]) := fun w' h => by have h2 := xa_.out; rw [hUB.out h] at h2; exact h2.zero
  clear N0 N1 rb_ hs_ xa_
  replace D := hid (D.out.step N.out)
  replace r3 := hid ((N.out.block _ (lt_of_block r3.out)).trans r3.out)
  replace r5 := hid ((N.out.block _ (lt_of_block r5.out)).trans r5.out)
  replace xV := hid (xV.out.later N.out)
  replace xU := hid (xU.out.later N.out)
  clear N
  have rc := rc_
  clear rc_
  clear hun hUB
  have a3_0 := box_at (j := 0) r3.out rfl
  have a3_1 := box_at (j := 1) r3.out rfl
  have a3_2 := box_at (j := 2) r3.out rfl
  have a3_3 := box_at (j := 3) r3.out rfl
  have a3_4 := box_at (j := 4) r3.out rfl
  go_wp2_with fail
  refine (hgt.out _ _ D.out xV.out).mono ?_
  rintro e w13 ⟨cs_, rfl, N0, xa_⟩
  clear a3_0 a3_1 a3_2 a3_3 a3_4
  replace N0 := hid N0
  obtain ⟨dk, dn, dt, da, dl, dc, df, dm, dg, rfl⟩ := xa_.five
  replace xa_ := hid xa_
  go_upto_region 12 with fail
  obtain ⟨w14, hw_⟩ : ∃ x, x = w13.alloc (.cells #[.int .i64 dk, .int .i64 dn, .string dt, .slice da dl dc, .slice df dm dg] 25) := ⟨_, rfl⟩
  have N1 : Hid (Below w13.heap.size w13 w14) := by show Below _ _ _; rw [hw_]; exact below_new _ _
  have rb_ : Hid (w14.heap[w13.heap.size]? = some (.cells #[.int .i64 dk, .int .i64 dn, .string dt, .slice da dl dc, .slice df dm dg] 25 (0, 0))) := by show _ = _; rw [hw_]; exact heap_alloc_new _ _
  rw [← hw_]
  clear hw_
  have a_0 := box_at (j := 0) rb_.out rfl
  have a_1 := box_at (j := 1) rb_.out rfl
  have a_2 := box_at (j := 2) rb_.out rfl
  have a_3 := box_at (j := 3) rb_.out rfl
  have a_4 := box_at (j := 4) rb_.out rfl
  go_wp2_with fail
  refine (hsp.out _ w12 w13 w14 _ N1.out xa_.out).mono ?_
  rintro e w15 ⟨rfl, hs_⟩
  clear a_0 a_1 a_2 a_3 a_4
  have N := hid (spoilt_below N0.out N1.out hs_)
  clear N0 N1 rb_ hs_ xa_
  replace D := hid (D.out.step N.out)
  replace r3 := hid ((N.out.block _ (lt_of_block r3.out)).trans r3.out)
  replace r5 := hid ((N.out.block _ (lt_of_block r5.out)).trans r5.out)
  replace rc := hid ((N.out.block _ (lt_of_block rc.out)).trans rc.out)
  replace xV := hid (xV.out.later N.out)
  replace xU := hid (xU.out.later N.out)
  clear N
  clear hgt hsp
  have a3_0 := box_at (j := 0) r3.out rfl
  have a3_1 := box_at (j := 1) r3.out rfl
  have a3_2 := box_at (j := 2) r3.out rfl
  have a3_3 := box_at (j := 3) r3.out rfl
  have a3_4 := box_at (j := 4) r3.out rfl
  have a5_0 := box_at (j := 0) r5.out rfl
  have a5_1 := box_at (j := 1) r5.out rfl
  have a5_2 := box_at (j := 2) r5.out rfl
  have a5_3 := box_at (j := 3) r5.out rfl
  have a5_4 := box_at (j := 4) r5.out rfl
  go_wp2_with fail
  refine (hrs.out _ _ _ xV.out xU.out).mono ?_
  rintro e w16 ⟨cs_, rfl, N0, xt_⟩
  clear a3_0 a3_1 a3_2 a3_3 a3_4 a5_0 a5_1 a5_2 a5_3 a5_4
  obtain ⟨tk, tn, tt, ta, tl, tc, tf, tm, tg, rfl⟩ := xt_.five
  replace xt_ := hid xt_
  have N := hid N0
  clear N0
  replace D := hid (D.out.step N.out)
  replace r3 := hid ((N.out.block _ (lt_of_block r3.out)).trans r3.out)
  replace r5 := hid ((N.out.block _ (lt_of_block r5.out)).trans r5.out)
  replace rc := hid ((N.out.block _ (lt_of_block rc.out)).trans rc.out)
  replace xV := hid (xV.out.later N.out)
  replace xU := hid (xU.out.later N.out)
  have xt := xt_
  clear xt_
  clear N
  go_upto_region 14 with fail
  obtain ⟨w17, hw_⟩ : ∃ x, x = w16.alloc (.cells #[.int .i64 tk, .int .i64 tn, .string tt, .slice ta tl tc, .slice tf tm tg] 25) := ⟨_, rfl⟩
  have N : Hid (Below w16.heap.size w16 w17) := by show Below _ _ _; rw [hw_]; exact below_new _ _
  have r15_ : Hid (w17.heap[w16.heap.size]? = some (.cells #[.int .i64 tk, .int .i64 tn, .string tt, .slice ta tl tc, .slice tf tm tg] 25 (0, 0))) := by show _ = _; rw [hw_]; exact heap_alloc_new _ _
  rw [← hw_]
  clear hw_
  replace D := hid (D.out.step N.out)
  replace r3 := hid ((N.out.block _ (lt_of_block r3.out)).trans r3.out)
  replace r5 := hid ((N.out.block _ (lt_of_block r5.out)).trans r5.out)
  replace rc := hid ((N.out.block _ (lt_of_block rc.out)).trans rc.out)
  replace xV := hid (xV.out.later N.out)
  replace xU := hid (xU.out.later N.out)
  replace xt := hid (xt.out.later N.out)
  clear N
  have r15 := r15_
  clear r15_
  have a3_0 := box_at (j := 0) r3.out rfl
  have a3_1 := box_at (j := 1) r3.out rfl
  have a3_2 := box_at (j := 2) r3.out rfl
  have a3_3 := box_at (j := 3) r3.out rfl
  have a3_4 := box_at (j := 4) r3.out rfl
  have a5_0 := box_at (j := 0) r5.out rfl
  have a5_1 := box_at (j := 1) r5.out rfl
  have a5_2 := box_at (j := 2) r5.out rfl
  have a5_3 := box_at (j := 3) r5.out rfl
  have a5_4 := box_at (j := 4) r5.out rfl
  go_wp2_with fail
  refine (hse.out _ _ _ D.out xV.out xU.out).mono ?_
  rintro e w18 ⟨cs_, rfl, N0, xq_⟩
  clear a3_0 a3_1 a3_2 a3_3 a3_4 a5_0 a5_1 a5_2 a5_3 a5_4
  obtain ⟨qk, qn, qt, qa, ql, qc, qf, qm, qg, rfl⟩ := xq_.five
  replace xq_ := hid xq_.now_free
  have N := hid N0
  clear N0
  replace D := hid (D.out.step N.out)
  replace r3 := hid ((N.out.block _ (lt_of_block r3.out)).trans r3.out)
  replace r5 := hid ((N.out.block _ (lt_of_block r5.out)).trans r5.out)
  replace rc := hid ((N.out.block _ (lt_of_block rc.out)).trans rc.out)
  replace r15 := hid ((N.out.block _ (lt_of_block r15.out)).trans r15.out)
  replace xV := hid (xV.out.later N.out)
  replace xU := hid (xU.out.later N.out)
  replace xt := hid (xt.out.later N.out)
  have xq := xq_
  clear xq_
  clear N
  go_upto_region 15 with fail
  obtain ⟨w19, hw_⟩ : ∃ x, x = w18.alloc (.cells #[.int .i64 qk, .int .i64 qn, .string qt, .slice qa ql qc, .slice qf qm qg] 25) := ⟨_, rfl⟩
  have N : Hid (Below w18.heap.size w18 w19) := by show Below _ _ _; rw [hw_]; exact below_new _ _
  have r17_ : Hid (w19.heap[w18.heap.size]? = some (.cells #[.int .i64 qk, .int .i64 qn, .string qt, .slice qa ql qc, .slice qf qm qg] 25 (0, 0))) := by show _ = _; rw [hw_]; exact heap_alloc_new _ _
  rw [← hw_]
  clear hw_
  replace D := hid (D.out.step N.out)
  replace r3 := hid ((N.out.block _ (lt_of_block r3.out)).trans r3.out)
  replace r5 := hid ((N.out.block _ (lt_of_block r5.out)).trans r5.out)
  replace rc := hid ((N.out.block _ (lt_of_block rc.out)).trans rc.out)
  replace r15 := hid ((N.out.block _ (lt_of_block r15.out)).trans r15.out)
  replace xV := hid (xV.out.later N.out)
  replace xU := hid (xU.out.later N.out)
  replace xt := hid (xt.out.later N.out)
  replace xq := hid (xq.out.later N.out)
  clear N
  have r17 := r17_
  clear r17_
  have a3_0 := box_at (j := 0) r3.out rfl
  have a3_1 := box_at (j := 1) r3.out rfl
  have a3_2 := box_at (j := 2) r3.out rfl
  have a3_3 := box_at (j := 3) r3.out rfl
  have a3_4 := box_at (j := 4) r3.out rfl
  have a5_0 := box_at (j := 0) r5.out rfl
  have a5_1 := box_at (j := 1) r5.out rfl
  have a5_2 := box_at (j := 2) r5.out rfl
  have a5_3 := box_at (j := 3) r5.out rfl
  have a5_4 := box_at (j := 4) r5.out rfl
  go_wp2_with fail
  refine (hrp.out _ _ _ xV.out xU.out).mono ?_
  rintro e w20 ⟨cs_, rfl, N0, xy_⟩
  clear a3_0 a3_1 a3_2 a3_3 a3_4 a5_0 a5_1 a5_2 a5_3 a5_4
  obtain ⟨yk, yn, yt, ya, yl, yc, yf, ym, yg, rfl⟩ := xy_.five
  replace xy_ := hid xy_
  have N := hid N0
  clear N0
  replace D := hid (D.out.step N.out)
  replace r3 := hid ((N.out.block _ (lt_of_block r3.out)).trans r3.out)
  replace r5 := hid ((N.out.block _ (lt_of_block r5.out)).trans r5.out)
  replace rc := hid ((N.out.block _ (lt_of_block rc.out)).trans rc.out)
  replace r15 := hid ((N.out.block _ (lt_of_block r15.out)).trans r15.out)
  replace r17 := hid ((N.out.block _ (lt_of_block r17.out)).trans r17.out)
  replace xV := hid (xV.out.later N.out)
  replace xU := hid (xU.out.later N.out)
  replace xt := hid (xt.out.later N.out)
  replace xq := hid (xq.out.later N.out)
  have xy := xy_
  clear xy_
  clear N
  go_upto_region 16 with fail
  obtain ⟨w21, hw_⟩ : ∃ x, x = w20.alloc (.cells #[.int .i64 yk, .int .i64 yn, .string yt, .slice ya yl yc, .slice yf ym yg] 25) := ⟨_, rfl⟩
  have N : Hid (Below w20.heap.size w20 w21) := by show Below _ _ _; rw [hw_]; exact below_new _ _
  have r19_ : Hid (w21.heap[w20.heap.size]? = some (.cells #[.int .i64 yk, .int .i64 yn, .string yt, .slice ya yl yc, .slice yf ym yg] 25 (0, 0))) := by show _ = _; rw [hw_]; exact heap_alloc_new _ _
  rw [← hw_]
  clear hw_
  replace D := hid (D.out.step N.out)
  replace r3 := hid ((N.out.block _ (lt_of_block r3.out)).trans r3.out)
  replace r5 := hid ((N.out.block _ (lt_of_block r5.out)).trans r5.out)
  replace rc := hid ((N.out.block _ (lt_of_block rc.out)).trans rc.out)
  replace r15 := hid ((N.out.block _ (lt_of_block r15.out)).trans r15.out)
  replace r17 := hid ((N.out.block _ (lt_of_block r17.out)).trans r17.out)
  replace xV := hid (xV.out.later N.out)
  replace xU := hid (xU.out.later N.out)
  replace xt := hid (xt.out.later N.out)
  replace xq := hid (xq.out.later N.out)
  replace xy := hid (xy.out.later N.out)
  clear N
  have r19 := r19_
  clear r19_
  have a3_0 := box_at (j := 0) r3.out rfl
  have a3_1 := box_at (j := 1) r3.out rfl
  have a3_2 := box_at (j := 2) r3.out rfl
  have a3_3 := box_at (j := 3) r3.out rfl
  have a3_4 := box_at (j := 4) r3.out rfl
  have a5_0 := box_at (j := 0) r5.out rfl
  have a5_1 := box_at (j := 1) r5.out rfl
  have a5_2 := box_at (j := 2) r5.out rfl
  have a5_3 := box_at (j := 3) r5.out rfl
  have a5_4 := box_at (j := 4) r5.out rfl
  go_wp2_with fail
  refine (hpu.out _ _ _ D.out xV.out xU.out).mono ?_
  rintro e w22 ⟨cs_, rfl, N0, xz_⟩
  clear a3_0 a3_1 a3_2 a3_3 a3_4 a5_0 a5_1 a5_2 a5_3 a5_4
  obtain ⟨zk, zn, zt, za, zl, zc, zf, zm, zg, rfl⟩ := xz_.five
  replace xz_ := hid xz_.now_free
  have N := hid N0
  clear N0
  replace D := hid (D.out.step N.out)
  replace r3 := hid ((N.out.block _ (lt_of_block r3.out)).trans r3.out)
  replace r5 := hid ((N.out.block _ (lt_of_block r5.out)).trans r5.out)
  replace rc := hid ((N.out.block _ (lt_of_block rc.out)).trans rc.out)
  replace r15 := hid ((N.out.block _ (lt_of_block r15.out)).trans r15.out)
  replace r17 := hid ((N.out.block _ (lt_of_block r17.out)).trans r17.out)
  replace r19 := hid ((N.out.block _ (lt_of_block r19.out)).trans r19.out)
  replace xV := hid (xV.out.later N.out)
  replace xU := hid (xU.out.later N.out)
  replace xt := hid (xt.out.later N.out)
  replace xq := hid (xq.out.later N.out)
  replace xy := hid (xy.out.later N.out)
  have xz := xz_
  clear xz_
  clear N
  go_upto_region 17 with fail
  obtain ⟨w23, hw_⟩ : ∃ x, x = w22.alloc (.cells #[.int .i64 zk, .int .i64 zn, .string zt, .slice za zl zc, .slice zf zm zg] 25) := ⟨_, rfl⟩
  have N : Hid (Below w22.heap.size w22 w23) := by show Below _ _ _; rw [hw_]; exact below_new _ _
  have r21_ : Hid (w23.heap[w22.heap.size]? = some (.cells #[.int .i64 zk, .int .i64 zn, .string zt, .slice za zl zc, .slice zf zm zg] 25 (0, 0))) := by show _ = _; rw [hw_]; exact heap_alloc_new _ _
  rw [← hw_]
  clear hw_
  replace D := hid (D.out.step N.out)
  replace r3 := hid ((N.out.block _ (lt_of_block r3.out)).trans r3.out)
  replace r5 := hid ((N.out.block _ (lt_of_block r5.out)).trans r5.out)
  replace rc := hid ((N.out.block _ (lt_of_block rc.out)).trans rc.out)
  replace r15 := hid ((N.out.block _ (lt_of_block r15.out)).trans r15.out)
  replace r17 := hid ((N.out.block _ (lt_of_block r17.out)).trans r17.out)
  replace r19 := hid ((N.out.block _ (lt_of_block r19.out)).trans r19.out)
  replace xV := hid (xV.out.later N.out)
  replace xU := hid (xU.out.later N.out)
  replace xt := hid (xt.out.later N.out)
  replace xq := hid (xq.out.later N.out)
  replace xy := hid (xy.out.later N.out)
  replace xz := hid (xz.out.later N.out)
  clear N
  have r21 := r21_
  clear r21_
  clear hrs hse hrp hpu xV xU r3 r5
  have a17_0 := box_at (j := 0) r17.out rfl
  have a17_1 := box_at (j := 1) r17.out rfl
  have a17_2 := box_at (j := 2) r17.out rfl
  have a17_3 := box_at (j := 3) r17.out rfl
  have a17_4 := box_at (j := 4) r17.out rfl
  have a15_0 := box_at (j := 0) r15.out rfl
  have a15_1 := box_at (j := 1) r15.out rfl
  have a15_2 := box_at (j := 2) r15.out rfl
  have a15_3 := box_at (j := 3) r15.out rfl
  have a15_4 := box_at (j := 4) r15.out rfl
  go_wp2_with fail
  refine (hsm.out SV _ _ _ xq.out xt.out).mono ?_
  rintro e w24 ⟨rfl, N0⟩
  clear a17_0 a17_1 a17_2 a17_3 a17_4 a15_0 a15_1 a15_2 a15_3 a15_4
  have N := hid N0
  clear N0
  replace D := hid (D.out.step N.out)
  replace rc := hid ((N.out.block _ (lt_of_block rc.out)).trans rc.out)
  replace r15 := hid ((N.out.block _ (lt_of_block r15.out)).trans r15.out)
  replace r17 := hid ((N.out.block _ (lt_of_block r17.out)).trans r17.out)
  replace r19 := hid ((N.out.block _ (lt_of_block r19.out)).trans r19.out)
  replace r21 := hid ((N.out.block _ (lt_of_block r21.out)).trans r21.out)
  replace xt := hid (xt.out.later N.out)
  replace xq := hid (xq.out.later N.out)
  replace xy := hid (xy.out.later N.out)
  replace xz := hid (xz.out.later N.out)
  clear N
  have a21_0 := box_at (j := 0) r21.out rfl
  have a21_1 := box_at (j := 1) r21.out rfl
  have a21_2 := box_at (j := 2) r21.out rfl
  have a21_3 := box_at (j := 3) r21.out rfl
  have a21_4 := box_at (j := 4) r21.out rfl
  have a19_0 := box_at (j := 0) r19.out rfl
  have a19_1 := box_at (j := 1) r19.out rfl
  have a19_2 := box_at (j := 2) r19.out rfl
  have a19_3 := box_at (j := 3) r19.out rfl
  have a19_4 := box_at (j := 4) r19.out rfl
  go_wp2_with fail
  refine (hsm.out PV _ _ _ xz.out xy.out).mono ?_
  rintro e w25 ⟨rfl, N0⟩
  clear a21_0 a21_1 a21_2 a21_3 a21_4 a19_0 a19_1 a19_2 a19_3 a19_4
  have N := hid N0
  clear N0
  replace D := hid (D.out.step N.out)
  replace rc := hid ((N.out.block _ (lt_of_block rc.out)).trans rc.out)
  replace r15 := hid ((N.out.block _ (lt_of_block r15.out)).trans r15.out)
  replace r17 := hid ((N.out.block _ (lt_of_block r17.out)).trans r17.out)
  replace r19 := hid ((N.out.block _ (lt_of_block r19.out)).trans r19.out)
  replace r21 := hid ((N.out.block _ (lt_of_block r21.out)).trans r21.out)
  replace xt := hid (xt.out.later N.out)
  replace xq := hid (xq.out.later N.out)
  replace xy := hid (xy.out.later N.out)
  replace xz := hid (xz.out.later N.out)
  clear N
  clear xt xq xy xz hsm
  by_cases hUE : UE = 0
  ·subst hUE
   go_wp2_with fail
   go_ret
   exact ⟨rfl, D.out⟩
  ·have hUi : (UE == 0) = false := by simp [hUE]
   have xc := hid (hzc.out w25 hUE)
   clear hUE hzc
   have ac_0 := box_at (j := 0) rc.out rfl
   have ac_1 := box_at (j := 1) rc.out rfl
   have ac_2 := box_at (j := 2) rc.out rfl
   have ac_3 := box_at (j := 3) rc.out rfl
   have ac_4 := box_at (j := 4) rc.out rfl
   go_wp2_with fail
   refine (hze.out _ _ xc.out).mono ?_
   rintro e w26 ⟨rfl, N0⟩
   clear ac_0 ac_1 ac_2 ac_3 ac_4
   have N := hid N0
   clear N0
   replace D := hid (D.out.step N.out)
   replace rc := hid ((N.out.block _ (lt_of_block rc.out)).trans rc.out)
   replace r15 := hid ((N.out.block _ (lt_of_block r15.out)).trans r15.out)
   replace r17 := hid ((N.out.block _ (lt_of_block r17.out)).trans r17.out)
   replace r19 := hid ((N.out.block _ (lt_of_block r19.out)).trans r19.out)
   replace r21 := hid ((N.out.block _ (lt_of_block r21.out)).trans r21.out)
   clear N
   go_wp2_with fail
   go_ret
   exact ⟨rfl, D.out⟩
end Go.Proofs.YthjihdpleclejaaGreatDoor
