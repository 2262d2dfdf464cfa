/-
  Walk: the law PathChanges. No condition.
-/
import Derived.Test.YthjihdpleclejaaGreatDoorMgPth58
import Derived.Test.YthjihdpleclejaaGreatDoorMgPth55
import Derived.Test.YthjihdpleclejaaGreatDoorMgPth23
import Derived.Test.YthjihdpleclejaaGreatDoorMgPth22
namespace Go.Proofs.YthjihdpleclejaaGreatDoor
open Go.RowKit Go.Proofs
theorem tellR_here {w w' : World} {e : Ending} {q : PVal × Int} (h : TellR (Now w) q w e w') : ∃ cs, e = .returned (.tuple #[.agg cs.toArray, .int .i64 q.2]) ∧ Below w.heap.size w w' ∧ Rd w' (Now w') q.1 cs := by
 obtain ⟨cs, h1, h2, h3⟩ := h
 exact ⟨cs, h1, h2, h3.keep (fun c hc => hc.elim (fun hc => Nat.lt_of_lt_of_le hc h2.size) (fun hc => hc.2)) (fun _ _ => rfl)⟩
set_option maxRecDepth 100000 in
set_option maxHeartbeats 8000000 in
theorem changes_calls (V0 X0 : PVal) (m : Int) (hmi : -9223372036854775808 ≤ m ∧ m ≤ 9223372036854775807) (hm : V0.mass ≤ 33554432) (hmx : X0.mass ≤ 33554432) (pa : ByteArray) (hpa : pa.size < 4294967281) {w : World} {cs xs : List Value} (hT : Tabs w) (hM : Mx w) (hV : Rd w (Now w) V0 cs) (hx : Rd w (Now w) X0 xs) :
  Calls Tryz.prog 4 #[.agg cs.toArray, .string pa, .agg xs.toArray, .int .i64 m] w fun e w' => e = .returned (.bool true) ∧ Below w.heap.size w w' := by
 have hva := hid (fun la c' w h => vast_calls [V0, X0] la c' w h (by simp))
 have hse := hid (fun (w' : World) cs xs (h : Below w.heap.size w w') hv hx => set_calls pa hpa V0 X0 (by omega) (by omega) (w := w') (cs := cs) (xs := xs) (Tabs.stays w w' hT h) (hM.stays h) hv hx)
 have hpu := hid (fun (w' : World) cs xs (h : Below w.heap.size w w') hv hx => push_calls pa hpa V0 X0 hm hmx (w := w') (cs := cs) (xs := xs) (Tabs.stays w w' hT h) (hM.stays h) hv hx)
 have hun := hid (fun (w' : World) cs (h : Below w.heap.size w w') hv => unset_calls pa hpa V0 (by omega) (w := w') (cs := cs) (Tabs.stays w w' hT h) (hM.stays h) hv)
 have had := hid (fun (w' : World) cs (h : Below w.heap.size w w') hv => add_calls pa hpa V0 m hmi (by omega) (w := w') (cs := cs) (Tabs.stays w w' hT h) (hM.stays h) hv)
 have hrs := hid (fun (w' : World) cs xs hv hx => (rSet_calls V0 X0 hm hmx pa (by omega) (w := w') (cs := cs) (xs := xs) hv hx).mono (fun _ _ h => tellR_here h))
 have hrp := hid (fun (w' : World) cs xs hv hx => (rPush_calls V0 X0 hm hmx pa (by omega) (w := w') (cs := cs) (xs := xs) hv hx).mono (fun _ _ h => tellR_here h))
 have hru := hid (fun (w' : World) cs hv => (rUnset_calls V0 hm pa (by omega) (w := w') (cs := cs) hv).mono (fun _ _ h => tellR_here h))
 have hra := hid (fun (w' : World) cs hv => (rAdd_calls V0 m hm hmi pa (by omega) (w := w') (cs := cs) hv).mono (fun _ _ h => tellR_here h))
 have haw := hid (fun (w' : World) (h : Below w.heap.size w w') => awake6_calls w' (Tabs.stays w w' hT h) (hM.stays h))
 have hsm := hid (fun (V : PVal) w cs cs' h h' => same6_calls V V true (by simp) w cs cs' h h')
 unfold Done6 at hse hpu hun had
 obtain ⟨SR, hSR⟩ : ∃ R, R = setP V0 pa X0 := ⟨_, rfl⟩
 rw [← hSR] at hse hrs
 obtain ⟨PR, hPR⟩ : ∃ R, R = pushP V0 pa X0 := ⟨_, rfl⟩
 rw [← hPR] at hpu hrp
 obtain ⟨UR, hUR⟩ : ∃ R, R = unsetP V0 pa := ⟨_, rfl⟩
 rw [← hUR] at hun hru
 obtain ⟨AR, hAR⟩ : ∃ R, R = addP V0 pa m := ⟨_, rfl⟩
 rw [← hAR] at had hra
 obtain ⟨SV, SE⟩ := SR
 obtain ⟨PV, PE⟩ := PR
 obtain ⟨UV, UE⟩ := UR
 obtain ⟨AV, AE⟩ := AR
 simp only at hse hrs hpu hrp hun hru had hra
 clear hSR hPR hUR hAR hT hM hm hmx hmi
 have xV := hid hV
 have xU := hid hx
 generalize vast [V0, X0] = T at *
 obtain ⟨vk, vn, vt, va, vl, vc, vf, vm, vg, rfl⟩ := hV.five
 obtain ⟨uk, un, ut, ua, ul, uc, uf, um, ug, rfl⟩ := hx.five
 clear hV hx
 go_enter Tryz.func4, Tryz.ntmps4
 have D := hid (Below.refl w.heap.size w)
 go_upto_region 1 with fail
 obtain ⟨w1, hw_⟩ : ∃ x, x = (w.alloc (.cells #[.int .i64 vk, .int .i64 vn, .string vt, .slice va vl vc, .slice vf vm vg] 25)).alloc (.cells #[.int .i64 uk, .int .i64 un, .string ut, .slice ua ul uc, .slice uf um ug] 25) := ⟨_, rfl⟩
 have N : Hid (Below w.heap.size w w1) := by show Below _ _ _; rw [hw_]; exact (below_new _ _).step (below_new _ _)
 have r3_ : Hid (w1.heap[w.heap.size]? = some (.cells #[.int .i64 vk, .int .i64 vn, .string vt, .slice va vl vc, .slice vf vm vg] 25 (0, 0))) := by show _ = _; rw [hw_]; exact al_old (al_at rfl)
 have r5_ : Hid (w1.heap[w.heap.size + 1]? = some (.cells #[.int .i64 uk, .int .i64 un, .string ut, .slice ua ul uc, .slice uf um ug] 25 (0, 0))) := by show _ = _; rw [hw_]; exact al_at (by simp)
 rw [← hw_]
 clear hw_
 replace D := hid (D.out.step N.out)
 replace xV := hid (xV.out.later N.out)
 replace xU := hid (xU.out.later N.out)
 clear N
 have r3 := r3_
 have r5 := r5_
 clear r3_ r5_
 have a3_0 := box_at (j := 0) r3.out rfl
 have a3_1 := box_at (j := 1) r3.out rfl
 have a3_2 := box_at (j := 2) r3.out rfl
 have a3_3 := box_at (j := 3) r3.out rfl
 have a3_4 := box_at (j := 4) r3.out rfl
 have a5_0 := box_at (j := 0) r5.out rfl
 have a5_1 := box_at (j := 1) r5.out rfl
 have a5_2 := box_at (j := 2) r5.out rfl
 have a5_3 := box_at (j := 3) r5.out rfl
 have a5_4 := box_at (j := 4) r5.out rfl
 go_wp2_with fail
 refine (hva.out (some ⟨w1.heap.size, 0, none⟩) 2 _ (rdL_pair (x := V0) (y := X0) (al_at (o := (.cells #[.int .i64 vk, .int .i64 vn, .string vt, .slice va vl vc, .slice vf vm vg, .int .i64 uk, .int .i64 un, .string ut, .slice ua ul uc, .slice uf um ug] 25)) rfl) (lt_of_block (al_at (o := (.cells #[.int .i64 vk, .int .i64 vn, .string vt, .slice va vl vc, .slice vf vm vg, .int .i64 uk, .int .i64 un, .string ut, .slice ua ul uc, .slice uf um ug] 25)) rfl)) (xV.out.later (below_new _ _)) (xU.out.later (below_new _ _)))).mono ?_
 rintro e w2 ⟨rfl, N0⟩
 clear a3_0 a3_1 a3_2 a3_3 a3_4 a5_0 a5_1 a5_2 a5_3 a5_4
 replace N0 := (below_new w1 (.cells #[.int .i64 vk, .int .i64 vn, .string vt, .slice va vl vc, .slice vf vm vg, .int .i64 uk, .int .i64 un, .string ut, .slice ua ul uc, .slice uf um ug] 25)).step N0
 have N := hid N0
 clear N0
 replace D := hid (D.out.step N.out)
 replace r3 := hid ((N.out.block _ (lt_of_block r3.out)).trans r3.out)
 replace r5 := hid ((N.out.block _ (lt_of_block r5.out)).trans r5.out)
 replace xV := hid (xV.out.later N.out)
 replace xU := hid (xU.out.later N.out)
 clear N
 clear hva
 cases T with
 | true =>
  go_wp2_with fail
  go_ret
  exact ⟨rfl, D.out⟩
 | false =>
  have a3_0 := box_at (j := 0) r3.out rfl
  have a3_1 := box_at (j := 1) r3.out rfl
  have a3_2 := box_at (j := 2) r3.out rfl
  have a3_3 := box_at (j := 3) r3.out rfl
  have a3_4 := box_at (j := 4) r3.out rfl
  have a5_0 := box_at (j := 0) r5.out rfl
  have a5_1 := box_at (j := 1) r5.out rfl
  have a5_2 := box_at (j := 2) r5.out rfl
  have a5_3 := box_at (j := 3) r5.out rfl
  have a5_4 := box_at (j := 4) r5.out rfl
  go_wp2_with fail
  refine (hse.out _ _ _ D.out xV.out xU.out).mono ?_
  rintro e w3 ⟨cs_, rfl, N0, xaa_⟩
  clear a3_0 a3_1 a3_2 a3_3 a3_4 a5_0 a5_1 a5_2 a5_3 a5_4
  obtain ⟨aak, aan, aat, aaa, aal, aac, aaf, aam, aag, rfl⟩ := xaa_.five
  replace xaa_ := hid xaa_.now_free
  have N := hid N0
  clear N0
  replace D := hid (D.out.step N.out)
  replace r3 := hid ((N.out.block _ (lt_of_block r3.out)).trans r3.out)
  replace r5 := hid ((N.out.block _ (lt_of_block r5.out)).trans r5.out)
  replace xV := hid (xV.out.later N.out)
  replace xU := hid (xU.out.later N.out)
  have xaa := xaa_
  clear xaa_
  clear N
  go_upto_region 4 with fail
  obtain ⟨w4, hw_⟩ : ∃ x, x = w3.alloc (.cells #[.int .i64 aak, .int .i64 aan, .string aat, .slice aaa aal aac, .slice aaf aam aag] 25) := ⟨_, rfl⟩
  have N : Hid (Below w3.heap.size w3 w4) := by show Below _ _ _; rw [hw_]; exact below_new _ _
  have r9_ : Hid (w4.heap[w3.heap.size]? = some (.cells #[.int .i64 aak, .int .i64 aan, .string aat, .slice aaa aal aac, .slice aaf aam aag] 25 (0, 0))) := by show _ = _; rw [hw_]; exact heap_alloc_new _ _
  rw [← hw_]
  clear hw_
  replace D := hid (D.out.step N.out)
  replace r3 := hid ((N.out.block _ (lt_of_block r3.out)).trans r3.out)
  replace r5 := hid ((N.out.block _ (lt_of_block r5.out)).trans r5.out)
  replace xV := hid (xV.out.later N.out)
  replace xU := hid (xU.out.later N.out)
  replace xaa := hid (xaa.out.later N.out)
  clear N
  have r9 := r9_
  clear r9_
  clear hse
  have a3_0 := box_at (j := 0) r3.out rfl
  have a3_1 := box_at (j := 1) r3.out rfl
  have a3_2 := box_at (j := 2) r3.out rfl
  have a3_3 := box_at (j := 3) r3.out rfl
  have a3_4 := box_at (j := 4) r3.out rfl
  go_wp2_with fail
  refine (hun.out _ _ D.out xV.out).mono ?_
  rintro e w5 ⟨cs_, rfl, N0, xbb_⟩
  clear a3_0 a3_1 a3_2 a3_3 a3_4
  obtain ⟨bbk, bbn, bbt, bba, bbl, bbc, bbf, bbm, bbg, rfl⟩ := xbb_.five
  replace xbb_ := hid xbb_.now_free
  have N := hid N0
  clear N0
  replace D := hid (D.out.step N.out)
  replace r3 := hid ((N.out.block _ (lt_of_block r3.out)).trans r3.out)
  replace r5 := hid ((N.out.block _ (lt_of_block r5.out)).trans r5.out)
  replace r9 := hid ((N.out.block _ (lt_of_block r9.out)).trans r9.out)
  replace xV := hid (xV.out.later N.out)
  replace xU := hid (xU.out.later N.out)
  replace xaa := hid (xaa.out.later N.out)
  have xbb := xbb_
  clear xbb_
  clear N
  go_upto_region 5 with fail
  obtain ⟨w6, hw_⟩ : ∃ x, x = w5.alloc (.cells #[.int .i64 bbk, .int .i64 bbn, .string bbt, .slice bba bbl bbc, .slice bbf bbm bbg] 25) := ⟨_, rfl⟩
  have N : Hid (Below w5.heap.size w5 w6) := by show Below _ _ _; rw [hw_]; exact below_new _ _
  have r11_ : Hid (w6.heap[w5.heap.size]? = some (.cells #[.int .i64 bbk, .int .i64 bbn, .string bbt, .slice bba bbl bbc, .slice bbf bbm bbg] 25 (0, 0))) := by show _ = _; rw [hw_]; exact heap_alloc_new _ _
  rw [← hw_]
  clear hw_
  replace D := hid (D.out.step N.out)
  replace r3 := hid ((N.out.block _ (lt_of_block r3.out)).trans r3.out)
  replace r5 := hid ((N.out.block _ (lt_of_block r5.out)).trans r5.out)
  replace r9 := hid ((N.out.block _ (lt_of_block r9.out)).trans r9.out)
  replace xV := hid (xV.out.later N.out)
  replace xU := hid (xU.out.later N.out)
  replace xaa := hid (xaa.out.later N.out)
  replace xbb := hid (xbb.out.later N.out)
  clear N
  have r11 := r11_
  clear r11_
  clear hun
  have a3_0 := box_at (j := 0) r3.out rfl
  have a3_1 := box_at (j := 1) r3.out rfl
  have a3_2 := box_at (j := 2) r3.out rfl
  have a3_3 := box_at (j := 3) r3.out rfl
  have a3_4 := box_at (j := 4) r3.out rfl
  have a5_0 := box_at (j := 0) r5.out rfl
  have a5_1 := box_at (j := 1) r5.out rfl
  have a5_2 := box_at (j := 2) r5.out rfl
  have a5_3 := box_at (j := 3) r5.out rfl
  have a5_4 := box_at (j := 4) r5.out rfl
  go_wp2_with fail
  refine (hpu.out _ _ _ D.out xV.out xU.out).mono ?_
  rintro e w7 ⟨cs_, rfl, N0, xcc_⟩
  clear a3_0 a3_1 a3_2 a3_3 a3_4 a5_0 a5_1 a5_2 a5_3 a5_4
  obtain ⟨cck, ccn, cct, cca, ccl, ccc, ccf, ccm, ccg, rfl⟩ := xcc_.five
  replace xcc_ := hid xcc_.now_free
  have N := hid N0
  clear N0
  replace D := hid (D.out.step N.out)
  replace r3 := hid ((N.out.block _ (lt_of_block r3.out)).trans r3.out)
  replace r5 := hid ((N.out.block _ (lt_of_block r5.out)).trans r5.out)
  replace r9 := hid ((N.out.block _ (lt_of_block r9.out)).trans r9.out)
  replace r11 := hid ((N.out.block _ (lt_of_block r11.out)).trans r11.out)
  replace xV := hid (xV.out.later N.out)
  replace xU := hid (xU.out.later N.out)
  replace xaa := hid (xaa.out.later N.out)
  replace xbb := hid (xbb.out.later N.out)
  have xcc := xcc_
  clear xcc_
  clear N
  go_upto_region 6 with fail
  obtain ⟨w8, hw_⟩ : ∃ x, x = w7.alloc (.cells #[.int .i64 cck, .int .i64 ccn, .string cct, .slice cca ccl ccc, .slice ccf ccm ccg] 25) := ⟨_, rfl⟩
  have N : Hid (Below w7.heap.size w7 w8) := by show Below _ _ _; rw [hw_]; exact below_new _ _
  have r13_ : Hid (w8.heap[w7.heap.size]? = some (.cells #[.int .i64 cck, .int .i64 ccn, .string cct, .slice cca ccl ccc, .slice ccf ccm ccg] 25 (0, 0))) := by show _ = _; rw [hw_]; exact heap_alloc_new _ _
  rw [← hw_]
  clear hw_
  replace D := hid (D.out.step N.out)
  replace r3 := hid ((N.out.block _ (lt_of_block r3.out)).trans r3.out)
  replace r5 := hid ((N.out.block _ (lt_of_block r5.out)).trans r5.out)
  replace r9 := hid ((N.out.block _ (lt_of_block r9.out)).trans r9.out)
  replace r11 := hid ((N.out.block _ (lt_of_block r11.out)).trans r11.out)
  replace xV := hid (xV.out.later N.out)
  replace xU := hid (xU.out.later N.out)
  replace xaa := hid (xaa.out.later N.out)
  replace xbb := hid (xbb.out.later N.out)
  replace xcc := hid (xcc.out.later N.out)
  clear N
  have r13 := r13_
  clear r13_
  clear hpu
  have a3_0 := box_at (j := 0) r3.out rfl
  have a3_1 := box_at (j := 1) r3.out rfl
  have a3_2 := box_at (j := 2) r3.out rfl
  have a3_3 := box_at (j := 3) r3.out rfl
  have a3_4 := box_at (j := 4) r3.out rfl
  go_wp2_with fail
  refine (had.out _ _ D.out xV.out).mono ?_
  rintro e w9 ⟨cs_, rfl, N0, xdd_⟩
  clear a3_0 a3_1 a3_2 a3_3 a3_4
  obtain ⟨ddk, ddn, ddt, dda, ddl, ddc, ddf, ddm, ddg, rfl⟩ := xdd_.five
  replace xdd_ := hid xdd_.now_free
  have N := hid N0
  clear N0
  replace D := hid (D.out.step N.out)
  replace r3 := hid ((N.out.block _ (lt_of_block r3.out)).trans r3.out)
  replace r5 := hid ((N.out.block _ (lt_of_block r5.out)).trans r5.out)
  replace r9 := hid ((N.out.block _ (lt_of_block r9.out)).trans r9.out)
  replace r11 := hid ((N.out.block _ (lt_of_block r11.out)).trans r11.out)
  replace r13 := hid ((N.out.block _ (lt_of_block r13.out)).trans r13.out)
  replace xV := hid (xV.out.later N.out)
  replace xU := hid (xU.out.later N.out)
  replace xaa := hid (xaa.out.later N.out)
  replace xbb := hid (xbb.out.later N.out)
  replace xcc := hid (xcc.out.later N.out)
  have xdd := xdd_
  clear xdd_
  clear N
  go_upto_region 7 with fail
  obtain ⟨w10, hw_⟩ : ∃ x, x = w9.alloc (.cells #[.int .i64 ddk, .int .i64 ddn, .string ddt, .slice dda ddl ddc, .slice ddf ddm ddg] 25) := ⟨_, rfl⟩
  have N : Hid (Below w9.heap.size w9 w10) := by show Below _ _ _; rw [hw_]; exact below_new _ _
  have r15_ : Hid (w10.heap[w9.heap.size]? = some (.cells #[.int .i64 ddk, .int .i64 ddn, .string ddt, .slice dda ddl ddc, .slice ddf ddm ddg] 25 (0, 0))) := by show _ = _; rw [hw_]; exact heap_alloc_new _ _
  rw [← hw_]
  clear hw_
  replace D := hid (D.out.step N.out)
  replace r3 := hid ((N.out.block _ (lt_of_block r3.out)).trans r3.out)
  replace r5 := hid ((N.out.block _ (lt_of_block r5.out)).trans r5.out)
  replace r9 := hid ((N.out.block _ (lt_of_block r9.out)).trans r9.out)
  replace r11 := hid ((N.out.block _ (lt_of_block r11.out)).trans r11.out)
  replace r13 := hid ((N.out.block _ (lt_of_block r13.out)).trans r13.out)
  replace xV := hid (xV.out.later N.out)
  replace xU := hid (xU.out.later N.out)
  replace xaa := hid (xaa.out.later N.out)
  replace xbb := hid (xbb.out.later N.out)
  replace xcc := hid (xcc.out.later N.out)
  replace xdd := hid (xdd.out.later N.out)
  clear N
  have r15 := r15_
  clear r15_
  clear had
  have a3_0 := box_at (j := 0) r3.out rfl
  have a3_1 := box_at (j := 1) r3.out rfl
  have a3_2 := box_at (j := 2) r3.out rfl
  have a3_3 := box_at (j := 3) r3.out rfl
  have a3_4 := box_at (j := 4) r3.out rfl
  have a5_0 := box_at (j := 0) r5.out rfl
  have a5_1 := box_at (j := 1) r5.out rfl
  have a5_2 := box_at (j := 2) r5.out rfl
  have a5_3 := box_at (j := 3) r5.out rfl
  have a5_4 := box_at (j := 4) r5.out rfl
  go_wp2_with fail
  refine (hrs.out _ _ _ xV.out xU.out).mono ?_
  rintro e w11 ⟨cs_, rfl, N0, xee_⟩
  clear a3_0 a3_1 a3_2 a3_3 a3_4 a5_0 a5_1 a5_2 a5_3 a5_4
  obtain ⟨eek, een, eet, eea, eel, eec, eef, eem, eeg, rfl⟩ := xee_.five
  replace xee_ := hid xee_
  have N := hid N0
  clear N0
  replace D := hid (D.out.step N.out)
  replace r3 := hid ((N.out.block _ (lt_of_block r3.out)).trans r3.out)
  replace r5 := hid ((N.out.block _ (lt_of_block r5.out)).trans r5.out)
  replace r9 := hid ((N.out.block _ (lt_of_block r9.out)).trans r9.out)
  replace r11 := hid ((N.out.block _ (lt_of_block r11.out)).trans r11.out)
  replace r13 := hid ((N.out.block _ (lt_of_block r13.out)).trans r13.out)
  replace r15 := hid ((N.out.block _ (lt_of_block r15.out)).trans r15.out)
  replace xV := hid (xV.out.later N.out)
  replace xU := hid (xU.out.later N.out)
  replace xaa := hid (xaa.out.later N.out)
  replace xbb := hid (xbb.out.later N.out)
  replace xcc := hid (xcc.out.later N.out)
  replace xdd := hid (xdd.out.later N.out)
  have xee := xee_
  clear xee_
  clear N
  go_upto_region 8 with fail
  obtain ⟨w12, hw_⟩ : ∃ x, x = w11.alloc (.cells #[.int .i64 eek, .int .i64 een, .string eet, .slice eea eel eec, .slice eef eem eeg] 25) := ⟨_, rfl⟩
  have N : Hid (Below w11.heap.size w11 w12) := by show Below _ _ _; rw [hw_]; exact below_new _ _
  have r17_ : Hid (w12.heap[w11.heap.size]? = some (.cells #[.int .i64 eek, .int .i64 een, .string eet, .slice eea eel eec, .slice eef eem eeg] 25 (0, 0))) := by show _ = _; rw [hw_]; exact heap_alloc_new _ _
  rw [← hw_]
  clear hw_
  replace D := hid (D.out.step N.out)
  replace r3 := hid ((N.out.block _ (lt_of_block r3.out)).trans r3.out)
  replace r5 := hid ((N.out.block _ (lt_of_block r5.out)).trans r5.out)
  replace r9 := hid ((N.out.block _ (lt_of_block r9.out)).trans r9.out)
  replace r11 := hid ((N.out.block _ (lt_of_block r11.out)).trans r11.out)
  replace r13 := hid ((N.out.block _ (lt_of_block r13.out)).trans r13.out)
  replace r15 := hid ((N.out.block _ (lt_of_block r15.out)).trans r15.out)
  replace xV := hid (xV.out.later N.out)
  replace xU := hid (xU.out.later N.out)
  replace xaa := hid (xaa.out.later N.out)
  replace xbb := hid (xbb.out.later N.out)
  replace xcc := hid (xcc.out.later N.out)
  replace xdd := hid (xdd.out.later N.out)
  replace xee := hid (xee.out.later N.out)
  clear N
  have r17 := r17_
  clear r17_
  clear hrs
  have a3_0 := box_at (j := 0) r3.out rfl
  have a3_1 := box_at (j := 1) r3.out rfl
  have a3_2 := box_at (j := 2) r3.out rfl
  have a3_3 := box_at (j := 3) r3.out rfl
  have a3_4 := box_at (j := 4) r3.out rfl
  go_wp2_with fail
  refine (hru.out _ _ xV.out).mono ?_
  rintro e w13 ⟨cs_, rfl, N0, xff_⟩
  clear a3_0 a3_1 a3_2 a3_3 a3_4
  obtain ⟨ffk, ffn, fft, ffa, ffl, ffc, fff, ffm, ffg, rfl⟩ := xff_.five
  replace xff_ := hid xff_
  have N := hid N0
  clear N0
  replace D := hid (D.out.step N.out)
  replace r3 := hid ((N.out.block _ (lt_of_block r3.out)).trans r3.out)
  replace r5 := hid ((N.out.block _ (lt_of_block r5.out)).trans r5.out)
  replace r9 := hid ((N.out.block _ (lt_of_block r9.out)).trans r9.out)
  replace r11 := hid ((N.out.block _ (lt_of_block r11.out)).trans r11.out)
  replace r13 := hid ((N.out.block _ (lt_of_block r13.out)).trans r13.out)
  replace r15 := hid ((N.out.block _ (lt_of_block r15.out)).trans r15.out)
  replace r17 := hid ((N.out.block _ (lt_of_block r17.out)).trans r17.out)
  replace xV := hid (xV.out.later N.out)
  replace xU := hid (xU.out.later N.out)
  replace xaa := hid (xaa.out.later N.out)
  replace xbb := hid (xbb.out.later N.out)
  replace xcc := hid (xcc.out.later N.out)
  replace xdd := hid (xdd.out.later N.out)
  replace xee := hid (xee.out.later N.out)
  have xff := xff_
  clear xff_
  clear N
  go_upto_region 9 with fail
  obtain ⟨w14, hw_⟩ : ∃ x, x = w13.alloc (.cells #[.int .i64 ffk, .int .i64 ffn, .string fft, .slice ffa ffl ffc, .slice fff ffm ffg] 25) := ⟨_, rfl⟩
  have N : Hid (Below w13.heap.size w13 w14) := by show Below _ _ _; rw [hw_]; exact below_new _ _
  have r19_ : Hid (w14.heap[w13.heap.size]? = some (.cells #[.int .i64 ffk, .int .i64 ffn, .string fft, .slice ffa ffl ffc, .slice fff ffm ffg] 25 (0, 0))) := by show _ = _; rw [hw_]; exact heap_alloc_new _ _
  rw [← hw_]
  clear hw_
  replace D := hid (D.out.step N.out)
  replace r3 := hid ((N.out.block _ (lt_of_block r3.out)).trans r3.out)
  replace r5 := hid ((N.out.block _ (lt_of_block r5.out)).trans r5.out)
  replace r9 := hid ((N.out.block _ (lt_of_block r9.out)).trans r9.out)
  replace r11 := hid ((N.out.block _ (lt_of_block r11.out)).trans r11.out)
  replace r13 := hid ((N.out.block _ (lt_of_block r13.out)).trans r13.out)
  replace r15 := hid ((N.out.block _ (lt_of_block r15.out)).trans r15.out)
  replace r17 := hid ((N.out.block _ (lt_of_block r17.out)).trans r17.out)
  replace xV := hid (xV.out.later N.out)
  replace xU := hid (xU.out.later N.out)
  replace xaa := hid (xaa.out.later N.out)
  replace xbb := hid (xbb.out.later N.out)
  replace xcc := hid (xcc.out.later N.out)
  replace xdd := hid (xdd.out.later N.out)
  replace xee := hid (xee.out.later N.out)
  replace xff := hid (xff.out.later N.out)
  clear N
  have r19 := r19_
  clear r19_
  clear hru
  have a3_0 := box_at (j := 0) r3.out rfl
  have a3_1 := box_at (j := 1) r3.out rfl
  have a3_2 := box_at (j := 2) r3.out rfl
  have a3_3 := box_at (j := 3) r3.out rfl
  have a3_4 := box_at (j := 4) r3.out rfl
  have a5_0 := box_at (j := 0) r5.out rfl
  have a5_1 := box_at (j := 1) r5.out rfl
  have a5_2 := box_at (j := 2) r5.out rfl
  have a5_3 := box_at (j := 3) r5.out rfl
  have a5_4 := box_at (j := 4) r5.out rfl
  go_wp2_with fail
  refine (hrp.out _ _ _ xV.out xU.out).mono ?_
  rintro e w15 ⟨cs_, rfl, N0, xgg_⟩
  clear a3_0 a3_1 a3_2 a3_3 a3_4 a5_0 a5_1 a5_2 a5_3 a5_4
  obtain ⟨ggk, ggn, ggt, gga, ggl, ggc, ggf, ggm, ggg, rfl⟩ := xgg_.five
  replace xgg_ := hid xgg_
  have N := hid N0
  clear N0
  replace D := hid (D.out.step N.out)
  replace r3 := hid ((N.out.block _ (lt_of_block r3.out)).trans r3.out)
  replace r5 := hid ((N.out.block _ (lt_of_block r5.out)).trans r5.out)
  replace r9 := hid ((N.out.block _ (lt_of_block r9.out)).trans r9.out)
  replace r11 := hid ((N.out.block _ (lt_of_block r11.out)).trans r11.out)
  replace r13 := hid ((N.out.block _ (lt_of_block r13.out)).trans r13.out)
  replace r15 := hid ((N.out.block _ (lt_of_block r15.out)).trans r15.out)
  replace r17 := hid ((N.out.block _ (lt_of_block r17.out)).trans r17.out)
  replace r19 := hid ((N.out.block _ (lt_of_block r19.out)).trans r19.out)
  replace xV := hid (xV.out.later N.out)
  replace xU := hid (xU.out.later N.out)
  replace xaa := hid (xaa.out.later N.out)
  replace xbb := hid (xbb.out.later N.out)
  replace xcc := hid (xcc.out.later N.out)
  replace xdd := hid (xdd.out.later N.out)
  replace xee := hid (xee.out.later N.out)
  replace xff := hid (xff.out.later N.out)
  have xgg := xgg_
  clear xgg_
  clear N
  go_upto_region 10 with fail
  obtain ⟨w16, hw_⟩ : ∃ x, x = w15.alloc (.cells #[.int .i64 ggk, .int .i64 ggn, .string ggt, .slice gga ggl ggc, .slice ggf ggm ggg] 25) := ⟨_, rfl⟩
  have N : Hid (Below w15.heap.size w15 w16) := by show Below _ _ _; rw [hw_]; exact below_new _ _
  have r21_ : Hid (w16.heap[w15.heap.size]? = some (.cells #[.int .i64 ggk, .int .i64 ggn, .string ggt, .slice gga ggl ggc, .slice ggf ggm ggg] 25 (0, 0))) := by show _ = _; rw [hw_]; exact heap_alloc_new _ _
  rw [← hw_]
  clear hw_
  replace D := hid (D.out.step N.out)
  replace r3 := hid ((N.out.block _ (lt_of_block r3.out)).trans r3.out)
  replace r5 := hid ((N.out.block _ (lt_of_block r5.out)).trans r5.out)
  replace r9 := hid ((N.out.block _ (lt_of_block r9.out)).trans r9.out)
  replace r11 := hid ((N.out.block _ (lt_of_block r11.out)).trans r11.out)
  replace r13 := hid ((N.out.block _ (lt_of_block r13.out)).trans r13.out)
  replace r15 := hid ((N.out.block _ (lt_of_block r15.out)).trans r15.out)
  replace r17 := hid ((N.out.block _ (lt_of_block r17.out)).trans r17.out)
  replace r19 := hid ((N.out.block _ (lt_of_block r19.out)).trans r19.out)
  replace xV := hid (xV.out.later N.out)
  replace xU := hid (xU.out.later N.out)
  replace xaa := hid (xaa.out.later N.out)
  replace xbb := hid (xbb.out.later N.out)
  replace xcc := hid (xcc.out.later N.out)
  replace xdd := hid (xdd.out.later N.out)
  replace xee := hid (xee.out.later N.out)
  replace xff := hid (xff.out.later N.out)
  replace xgg := hid (xgg.out.later N.out)
  clear N
  have r21 := r21_
  clear r21_
  clear hrp
  have a3_0 := box_at (j := 0) r3.out rfl
  have a3_1 := box_at (j := 1) r3.out rfl
  have a3_2 := box_at (j := 2) r3.out rfl
  have a3_3 := box_at (j := 3) r3.out rfl
  have a3_4 := box_at (j := 4) r3.out rfl
  go_wp2_with fail
  refine (hra.out _ _ xV.out).mono ?_
  rintro e w17 ⟨cs_, rfl, N0, xhh_⟩
  clear a3_0 a3_1 a3_2 a3_3 a3_4
  obtain ⟨hhk, hhn, hht, hha, hhl, hhc, hhf, hhm, hhg, rfl⟩ := xhh_.five
  replace xhh_ := hid xhh_
  have N := hid N0
  clear N0
  replace D := hid (D.out.step N.out)
  replace r3 := hid ((N.out.block _ (lt_of_block r3.out)).trans r3.out)
  replace r5 := hid ((N.out.block _ (lt_of_block r5.out)).trans r5.out)
  replace r9 := hid ((N.out.block _ (lt_of_block r9.out)).trans r9.out)
  replace r11 := hid ((N.out.block _ (lt_of_block r11.out)).trans r11.out)
  replace r13 := hid ((N.out.block _ (lt_of_block r13.out)).trans r13.out)
  replace r15 := hid ((N.out.block _ (lt_of_block r15.out)).trans r15.out)
  replace r17 := hid ((N.out.block _ (lt_of_block r17.out)).trans r17.out)
  replace r19 := hid ((N.out.block _ (lt_of_block r19.out)).trans r19.out)
  replace r21 := hid ((N.out.block _ (lt_of_block r21.out)).trans r21.out)
  replace xV := hid (xV.out.later N.out)
  replace xU := hid (xU.out.later N.out)
  replace xaa := hid (xaa.out.later N.out)
  replace xbb := hid (xbb.out.later N.out)
  replace xcc := hid (xcc.out.later N.out)
  replace xdd := hid (xdd.out.later N.out)
  replace xee := hid (xee.out.later N.out)
  replace xff := hid (xff.out.later N.out)
  replace xgg := hid (xgg.out.later N.out)
  have xhh := xhh_
  clear xhh_
  clear N
  go_upto_region 11 with fail
  obtain ⟨w18, hw_⟩ : ∃ x, x = w17.alloc (.cells #[.int .i64 hhk, .int .i64 hhn, .string hht, .slice hha hhl hhc, .slice hhf hhm hhg] 25) := ⟨_, rfl⟩
  have N : Hid (Below w17.heap.size w17 w18) := by show Below _ _ _; rw [hw_]; exact below_new _ _
  have r23_ : Hid (w18.heap[w17.heap.size]? = some (.cells #[.int .i64 hhk, .int .i64 hhn, .string hht, .slice hha hhl hhc, .slice hhf hhm hhg] 25 (0, 0))) := by show _ = _; rw [hw_]; exact heap_alloc_new _ _
  rw [← hw_]
  clear hw_
  replace D := hid (D.out.step N.out)
  replace r3 := hid ((N.out.block _ (lt_of_block r3.out)).trans r3.out)
  replace r5 := hid ((N.out.block _ (lt_of_block r5.out)).trans r5.out)
  replace r9 := hid ((N.out.block _ (lt_of_block r9.out)).trans r9.out)
  replace r11 := hid ((N.out.block _ (lt_of_block r11.out)).trans r11.out)
  replace r13 := hid ((N.out.block _ (lt_of_block r13.out)).trans r13.out)
  replace r15 := hid ((N.out.block _ (lt_of_block r15.out)).trans r15.out)
  replace r17 := hid ((N.out.block _ (lt_of_block r17.out)).trans r17.out)
  replace r19 := hid ((N.out.block _ (lt_of_block r19.out)).trans r19.out)
  replace r21 := hid ((N.out.block _ (lt_of_block r21.out)).trans r21.out)
  replace xV := hid (xV.out.later N.out)
  replace xU := hid (xU.out.later N.out)
  replace xaa := hid (xaa.out.later N.out)
  replace xbb := hid (xbb.out.later N.out)
  replace xcc := hid (xcc.out.later N.out)
  replace xdd := hid (xdd.out.later N.out)
  replace xee := hid (xee.out.later N.out)
  replace xff := hid (xff.out.later N.out)
  replace xgg := hid (xgg.out.later N.out)
  replace xhh := hid (xhh.out.later N.out)
  clear N
  have r23 := r23_
  clear r23_
  clear hra xV xU r3 r5
  go_wp2_with fail
  refine (haw.out _ D.out).mono ?_
  rintro e w19 ⟨rfl, N0⟩
  have N := hid N0
  clear N0
  replace D := hid (D.out.step N.out)
  replace r9 := hid ((N.out.block _ (lt_of_block r9.out)).trans r9.out)
  replace r11 := hid ((N.out.block _ (lt_of_block r11.out)).trans r11.out)
  replace r13 := hid ((N.out.block _ (lt_of_block r13.out)).trans r13.out)
  replace r15 := hid ((N.out.block _ (lt_of_block r15.out)).trans r15.out)
  replace r17 := hid ((N.out.block _ (lt_of_block r17.out)).trans r17.out)
  replace r19 := hid ((N.out.block _ (lt_of_block r19.out)).trans r19.out)
  replace r21 := hid ((N.out.block _ (lt_of_block r21.out)).trans r21.out)
  replace r23 := hid ((N.out.block _ (lt_of_block r23.out)).trans r23.out)
  replace xaa := hid (xaa.out.later N.out)
  replace xbb := hid (xbb.out.later N.out)
  replace xcc := hid (xcc.out.later N.out)
  replace xdd := hid (xdd.out.later N.out)
  replace xee := hid (xee.out.later N.out)
  replace xff := hid (xff.out.later N.out)
  replace xgg := hid (xgg.out.later N.out)
  replace xhh := hid (xhh.out.later N.out)
  clear N
  clear haw
  have a9_0 := box_at (j := 0) r9.out rfl
  have a9_1 := box_at (j := 1) r9.out rfl
  have a9_2 := box_at (j := 2) r9.out rfl
  have a9_3 := box_at (j := 3) r9.out rfl
  have a9_4 := box_at (j := 4) r9.out rfl
  have a17_0 := box_at (j := 0) r17.out rfl
  have a17_1 := box_at (j := 1) r17.out rfl
  have a17_2 := box_at (j := 2) r17.out rfl
  have a17_3 := box_at (j := 3) r17.out rfl
  have a17_4 := box_at (j := 4) r17.out rfl
  go_wp2_with fail
  refine (hsm.out SV _ _ _ xaa.out xee.out).mono ?_
  rintro e w20 ⟨rfl, N0⟩
  clear a9_0 a9_1 a9_2 a9_3 a9_4 a17_0 a17_1 a17_2 a17_3 a17_4
  have N := hid N0
  clear N0
  replace D := hid (D.out.step N.out)
  replace r9 := hid ((N.out.block _ (lt_of_block r9.out)).trans r9.out)
  replace r11 := hid ((N.out.block _ (lt_of_block r11.out)).trans r11.out)
  replace r13 := hid ((N.out.block _ (lt_of_block r13.out)).trans r13.out)
  replace r15 := hid ((N.out.block _ (lt_of_block r15.out)).trans r15.out)
  replace r17 := hid ((N.out.block _ (lt_of_block r17.out)).trans r17.out)
  replace r19 := hid ((N.out.block _ (lt_of_block r19.out)).trans r19.out)
  replace r21 := hid ((N.out.block _ (lt_of_block r21.out)).trans r21.out)
  replace r23 := hid ((N.out.block _ (lt_of_block r23.out)).trans r23.out)
  replace xaa := hid (xaa.out.later N.out)
  replace xbb := hid (xbb.out.later N.out)
  replace xcc := hid (xcc.out.later N.out)
  replace xdd := hid (xdd.out.later N.out)
  replace xee := hid (xee.out.later N.out)
  replace xff := hid (xff.out.later N.out)
  replace xgg := hid (xgg.out.later N.out)
  replace xhh := hid (xhh.out.later N.out)
  clear N
  clear xaa xee r9 r17
  have a11_0 := box_at (j := 0) r11.out rfl
  have a11_1 := box_at (j := 1) r11.out rfl
  have a11_2 := box_at (j := 2) r11.out rfl
  have a11_3 := box_at (j := 3) r11.out rfl
  have a11_4 := box_at (j := 4) r11.out rfl
  have a19_0 := box_at (j := 0) r19.out rfl
  have a19_1 := box_at (j := 1) r19.out rfl
  have a19_2 := box_at (j := 2) r19.out rfl
  have a19_3 := box_at (j := 3) r19.out rfl
  have a19_4 := box_at (j := 4) r19.out rfl
  go_wp2_with fail
  refine (hsm.out UV _ _ _ xbb.out xff.out).mono ?_
  rintro e w21 ⟨rfl, N0⟩
  clear a11_0 a11_1 a11_2 a11_3 a11_4 a19_0 a19_1 a19_2 a19_3 a19_4
  have N := hid N0
  clear N0
  replace D := hid (D.out.step N.out)
  replace r11 := hid ((N.out.block _ (lt_of_block r11.out)).trans r11.out)
  replace r13 := hid ((N.out.block _ (lt_of_block r13.out)).trans r13.out)
  replace r15 := hid ((N.out.block _ (lt_of_block r15.out)).trans r15.out)
  replace r19 := hid ((N.out.block _ (lt_of_block r19.out)).trans r19.out)
  replace r21 := hid ((N.out.block _ (lt_of_block r21.out)).trans r21.out)
  replace r23 := hid ((N.out.block _ (lt_of_block r23.out)).trans r23.out)
  replace xbb := hid (xbb.out.later N.out)
  replace xcc := hid (xcc.out.later N.out)
  replace xdd := hid (xdd.out.later N.out)
  replace xff := hid (xff.out.later N.out)
  replace xgg := hid (xgg.out.later N.out)
  replace xhh := hid (xhh.out.later N.out)
  clear N
  clear xbb xff r11 r19
  have a13_0 := box_at (j := 0) r13.out rfl
  have a13_1 := box_at (j := 1) r13.out rfl
  have a13_2 := box_at (j := 2) r13.out rfl
  have a13_3 := box_at (j := 3) r13.out rfl
  have a13_4 := box_at (j := 4) r13.out rfl
  have a21_0 := box_at (j := 0) r21.out rfl
  have a21_1 := box_at (j := 1) r21.out rfl
  have a21_2 := box_at (j := 2) r21.out rfl
  have a21_3 := box_at (j := 3) r21.out rfl
  have a21_4 := box_at (j := 4) r21.out rfl
  go_wp2_with fail
  refine (hsm.out PV _ _ _ xcc.out xgg.out).mono ?_
  rintro e w22 ⟨rfl, N0⟩
  clear a13_0 a13_1 a13_2 a13_3 a13_4 a21_0 a21_1 a21_2 a21_3 a21_4
  have N := hid N0
  clear N0
  replace D := hid (D.out.step N.out)
  replace r13 := hid ((N.out.block _ (lt_of_block r13.out)).trans r13.out)
  replace r15 := hid ((N.out.block _ (lt_of_block r15.out)).trans r15.out)
  replace r21 := hid ((N.out.block _ (lt_of_block r21.out)).trans r21.out)
  replace r23 := hid ((N.out.block _ (lt_of_block r23.out)).trans r23.out)
  replace xcc := hid (xcc.out.later N.out)
  replace xdd := hid (xdd.out.later N.out)
  replace xgg := hid (xgg.out.later N.out)
  replace xhh := hid (xhh.out.later N.out)
  clear N
  clear xcc xgg r13 r21
  have a15_0 := box_at (j := 0) r15.out rfl
  have a15_1 := box_at (j := 1) r15.out rfl
  have a15_2 := box_at (j := 2) r15.out rfl
  have a15_3 := box_at (j := 3) r15.out rfl
  have a15_4 := box_at (j := 4) r15.out rfl
  have a23_0 := box_at (j := 0) r23.out rfl
  have a23_1 := box_at (j := 1) r23.out rfl
  have a23_2 := box_at (j := 2) r23.out rfl
  have a23_3 := box_at (j := 3) r23.out rfl
  have a23_4 := box_at (j := 4) r23.out rfl
  go_wp2_with fail
  refine (hsm.out AV _ _ _ xdd.out xhh.out).mono ?_
  rintro e w23 ⟨rfl, N0⟩
  clear a15_0 a15_1 a15_2 a15_3 a15_4 a23_0 a23_1 a23_2 a23_3 a23_4
  have N := hid N0
  clear N0
  replace D := hid (D.out.step N.out)
  replace r15 := hid ((N.out.block _ (lt_of_block r15.out)).trans r15.out)
  replace r23 := hid ((N.out.block _ (lt_of_block r23.out)).trans r23.out)
  replace xdd := hid (xdd.out.later N.out)
  replace xhh := hid (xhh.out.later N.out)
  clear N
  clear xdd xhh r15 r23
  go_wp2_with fail
  go_ret
  exact ⟨rfl, D.out⟩
end Go.Proofs.YthjihdpleclejaaGreatDoor
